/- law10: WalRecords. -/
import Derived.Test.YtmglkhnojimnlaaWalR2
import Derived.Test.YtmglkhnojimnlaaWalAwake
import Derived.Laws.MakeOwn
namespace Go.Proofs.Ytmglkhnojimnlaa
open Go.RowKit Go.Maps
attribute [local go_sem] Oper.semAt_some

theorem infoByte : (Try.prog.info? 5).map (fun i => (i.zero, i.size, i.bytes)) = some (some (.int .u8 0), 1, 1) := by kernel_rfl
def zeroS (n : Nat) : ByteArray := ⟨(List.replicate n (0 : UInt8)).toArray⟩
theorem zeroS_size (n : Nat) : (zeroS n).size = n := by simp [zeroS, ByteArray.size]
theorem make_bytes (W : World) (n : Nat) (hn : n ≤ 1099511627776) : (Instr.makeSlice 31 (.int .i64 (n : Int)) (.int .i64 (n : Int))).run Try.prog W = .ok (.slice (some ⟨W.heap.size, 0, none⟩) n n) (W.alloc (.cells (madeCells #[.int .u8 0] n) 5)) := by
  obtain ⟨i0, hi, hz0, hz1, hz2⟩ := info_parts infoByte
  have := run_make (P := Try.prog) W 31 5 i0 _ Try.underlying31 hi hz0 .i64 .i64 (n : Int) (n : Int) (by omega) (by omega) (by rw [hz2]; omega) (by omega)
  rw [Int.toNat_natCast, hz1, Nat.mul_one] at this
  exact this
theorem conv_zeros (W : World) (n : Nat) : (convert 31 9 (.slice (some ⟨W.heap.size, 0, none⟩) n n)).run Try.prog (W.alloc (.cells (madeCells #[.int .u8 0] n) 5)) = .ok (.string (zeroS n)) (W.alloc (.cells (madeCells #[.int .u8 0] n) 5)) := by
  have := run_convert_bytes_back (P := Try.prog) (W.alloc (.cells (madeCells #[.int .u8 0] n) 5)) 31 9 5 ⟨W.heap.size, 0, none⟩ n (List.replicate n 0) Try.underlying31 Try.underlying5 Try.underlying9 (fun j hj => by
    have hb := Blk.new W 5 (madeCells #[.int .u8 0] n)
    rw [List.length_replicate] at hj
    rw [add_none, Nat.zero_add, hb.cell j, List.getElem_replicate]
    simp [madeCells, hj, Nat.mod_one])
  rw [List.length_replicate] at this
  exact this
set_option maxRecDepth 100000 in
set_option maxHeartbeats 3200000 in
theorem records_walk (b s : ByteArray) (long : Int) (w : World) (hb : b.size ≤ maxLen) (hs : s.size ≤ maxLen) (hlg : (Lit.int .i64 long).wf = true) :
    Calls Try.prog 3 #[.string b, .string s, .int .i64 long] w fun e w' => e = .returned (.bool true) ∧ Touch [] w w' := by
  have hs1 := fun W => short_any W b 2000 hb (by decide)
  have hs2 := fun W => short_any W s 300 hs (by decide)
  have hz1 := (cutS_size b 2000).1
  have hz2 := (cutS_size s 300).1
  obtain ⟨b', hb'⟩ : ∃ b', b' = cutS b 2000 := ⟨_, rfl⟩
  obtain ⟨s', hs'⟩ : ∃ s', s' = cutS s 300 := ⟨_, rfl⟩
  rw [← hb'] at hs1 hz1
  rw [← hs'] at hs2 hz2
  have hrc := fun W => record_any W s' (by unfold maxLen; omega)
  have hrr := fun W => rrecord_any W s' (by omega)
  rw [if_pos (by omega), if_pos (by omega)] at hrc hrr
  have hrs := fun W => records_any W b' (by omega)
  have hrrs := fun W => rrecords_any W b' (by omega)
  have hcnt := WM.recs_count (bs b').length (bs b') (Nat.le_refl _)
  rw [bs_length] at hcnt
  obtain ⟨rr, hrre⟩ : ∃ rr, rr = recS s' := ⟨_, rfl⟩
  rw [← hrre] at hrc hrr
  obtain ⟨R, hR⟩ : ∃ R, R = WM.recs (bs b') := ⟨_, rfl⟩
  rw [← hR] at hrs hrrs hcnt
  obtain ⟨L, hL⟩ : ∃ L, L = R.1.map ofBs := ⟨_, rfl⟩
  have hcl : L.length ≤ 1099511627776 := by rw [hL, List.length_map]; omega
  rw [← hL] at hrs hrrs
  have hself : (rr.toList == rr.toList) = true := beq_self_eq_true _
  have S1 := Lib.hid hs1
  have S2 := Lib.hid hs2
  have RC := Lib.hid hrc
  have RR := Lib.hid hrr
  have RS := Lib.hid hrs
  have RRS := Lib.hid hrrs
  have CNT := Lib.hid hcl
  have hm1 := Int.tmod_lt_of_pos long (b := 101) (by decide)
  have hm2 := Int.lt_tmod_of_pos long (b := 101) (by decide)
  obtain ⟨r, hr⟩ : ∃ r, long.tmod 101 = r := ⟨_, rfl⟩
  rw [hr] at hm1 hm2
  obtain ⟨k, hk⟩ : ∃ k : Nat, k = r.natAbs := ⟨_, rfl⟩
  obtain ⟨n, hn⟩ : ∃ n : Nat, n = 59950 + k := ⟨_, rfl⟩
  have hmk := fun W => make_bytes W n (by omega)
  have hcv := fun W => conv_zeros W n
  have hzz := zeroS_size n
  have hlast := fun W => record_any W (zeroS n) (by rw [hzz]; unfold maxLen; omega)
  obtain ⟨gg, hgg⟩ : ∃ gg : Int, (if (zeroS n).size ≤ 60000 then (0 : Int) else 11) = gg := ⟨_, rfl⟩
  rw [hgg] at hlast
  have LAST := Lib.hid hlast
  have hfin : (gg == 0) = decide ((k : Int) ≤ 50) := by
    rw [← hgg, hzz]
    by_cases h : n ≤ 60000
    · rw [if_pos h]; symm; simp; omega
    · rw [if_neg h]; symm; simp; omega
  have hnI : (n : Int) ≤ 60050 := by omega
  have hnk : (59950 : Int) + (k : Int) = (n : Int) := by omega
  have hkI : (k : Int) ≤ 100 := by omega
  have hkr : r = (k : Int) ∨ r < 0 ∧ -r = (k : Int) := by omega
  have HKR := Lib.hid hkr
  obtain ⟨zz, hzn⟩ : ∃ zz, zz = zeroS n := ⟨_, rfl⟩
  rw [← hzn] at hcv LAST
  have HMK := Lib.hid hmk
  have HCV := Lib.hid hcv
  have HF := Lib.hid hfin
  clear hmk hcv hfin
  clear hs1 hs2 hrc hrr hrs hrrs hcnt hcl hL hb' hs' hrre hR hlast hgg hzn hzz hn hk hkr
  go_enter Try.func3, Try.ntmps3
  go_wp2_with fail
  refine (awake_any _).mono ?_
  rintro e w1 ⟨rfl, T1⟩
  go_wp2_with fail
  refine (S1.out _).mono ?_
  rintro e w1' ⟨rfl, rfl⟩
  go_wp2_with fail
  refine (S2.out _).mono ?_
  rintro e w2 ⟨rfl, rfl⟩
  go_wp2_with fail
  refine (RC.out _).mono ?_
  rintro e w3 ⟨rfl, T3⟩
  go_wp2_with fail
  refine (RR.out _).mono ?_
  rintro e w4 ⟨rfl, T4⟩
  go_wp2_with fail
  refine (RS.out _).mono ?_
  rintro e w5 ⟨v5, rfl, R5, T5⟩
  obtain ⟨a5, c5, rfl, _, _, x5⟩ := R5.open
  go_wp2_with fail
  refine (RRS.out _).mono ?_
  rintro e w6 ⟨v6, rfl, R6, T6⟩
  obtain ⟨a6, c6, rfl, _, _, x6⟩ := R6.open
  have hsm := same_any w6 a5 a6 c5 c6 L L (x5.texts.touch T6) x6.texts CNT.out CNT.out
  rw [sameB_refl] at hsm
  have HSM := Lib.hid hsm
  have HT := Lib.hid ((((T1.trans T3 (by simp)).trans T4 (by simp)).trans T5 (by simp)).trans T6 (by simp))
  clear hsm T1 T3 T4 T5 T6 x5 x6 R5 R6
  go_wp2_with fail
  refine HSM.out.mono ?_
  rintro e w7 ⟨rfl, j7, hw7⟩
  have HT7 := Lib.hid (HT.out.trans (hw7 ▸ Touch.drewN [] w6 j7) (by simp))
  clear hw7
  have hmk := HMK.out
  have hcv := HCV.out
  have hfin := HF.out
  rcases HKR.out with hkr | ⟨hneg, hkr⟩
  all_goals
    go_wp2_with fail
    refine (LAST.out _).mono ?_
    rintro e w8 ⟨rfl, T8⟩
    have HT8 := Lib.hid ((HT7.out.alloc _).trans T8 (by simp))
    clear T8 HMK HCV hmk hcv
    go_wp2_with fail
    all_goals
      go_ret
      exact ⟨rfl, HT8.out⟩
end Go.Proofs.Ytmglkhnojimnlaa

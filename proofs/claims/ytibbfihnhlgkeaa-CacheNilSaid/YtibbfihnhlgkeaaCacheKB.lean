/- A key of a name of any length. -/
import Derived.Test.YtibbfihnhlgkeaaCacheK
namespace Go.Proofs.Ytibbfihnhlgkeaa
open Go.RowKit Go.Maps Go.Shelf
open NM (Bs bs ofBs)

set_option maxRecDepth 10000 in
set_option maxHeartbeats 1000000 in
theorem nlowerB_any (w : World) (s : ByteArray) (hs : s.size ≤ 140737488355328) : Calls Try.prog 55 #[.string s] w fun e w' => e = .returned (.string (ofBs (NM.lower (bs s)))) ∧ Touch [] w w' := by
  have hcv := fun w s => run_bytes_of_string (P := Try.prog) w 9 83 5 s Try.underlying9 Try.underlying83 Try.underlying5
  go_enter Try.func55, Try.ntmps55
  go_wp2_with fail
  obtain ⟨cw, hcw⟩ : ∃ cw, cw = grownCap w s.size 0 5 := ⟨_, rfl⟩
  have hcc : s.size ≤ cw := by rw [hcw]; exact grownCap_ge _ _ _ _
  rw [← hcw]
  have hb0 := bytes_laid w s 5 cw hcc
  have T0 : Touch [] w ((w.alloc (Obj.cells (bytesRow s cw) 5 ((bytesRow s cw).size, (bytesRow s cw).size + 1))).drew) := ((Touch.refl [] w).alloc _).drew_
  obtain ⟨w1, hw1⟩ : ∃ w1, w1 = ((w.alloc (Obj.cells (bytesRow s cw) 5 ((bytesRow s cw).size, (bytesRow s cw).size + 1))).drew) := ⟨_, rfl⟩
  rw [← hw1] at hb0 T0 ⊢
  obtain ⟨G, hG⟩ : ∃ G, G = w.heap.size := ⟨_, rfl⟩
  rw [← hG] at hb0 ⊢
  have HG := Lib.hid hG
  have hl := NM.bs_length s
  have HL := Lib.hid hl
  clear hw1 hcw hG hcv hl
  go_loopw [9] (fun v wr => ∃ i : Nat, i ≤ s.size ∧ v = .int .i64 (i : Int) ∧ Bytes wr G (half (bs s) i) ∧ Touch [] w wr) (fun v _ => s.size - (intOf v).toNat)
  case atStart => exact ⟨0, Nat.zero_le _, rfl, by rw [half_zero]; exact hb0, T0⟩
  case round =>
    obtain ⟨i, hi, rfl, hb, hT⟩ := hrel
    obtain ⟨wo, rfl⟩ : ∃ wo, wo = wr := ⟨_, rfl⟩
    by_cases hlt : i < s.size
    · have hltI : (i : Int) < (s.size : Int) := by omega
      have hwr : wrap64 ((i : Int) + 1) = (i : Int) + 1 := IntWalk.wrap64_in _ (by omega)
      have hi2 : i < (bs s).length := by rw [NM.bs_length]; exact hlt
      have hi3 : i < (half (bs s) i).length := by rw [half_length _ _ (by omega)]; exact hi2
      obtain ⟨hc, hf⟩ := hb i hi3
      have hst := half_step (bs s) i hi2
      have hsm := half_same (bs s) i hi2
      have hor := or_32 (bs s)[i]
      rw [half_at _ _ hi2] at hc
      obtain ⟨c, hcc2⟩ : ∃ c, c = (bs s)[i] := ⟨_, rfl⟩
      rw [← hcc2] at hc hst hsm hor
      have HST := Lib.hid hst
      have HSM := Lib.hid hsm
      have HB := Lib.hid hb
      clear hst hsm hb hcc2 hi2 hi3
      by_cases h65 : 65 ≤ c.toNat
      · have h65I : (65 : Int) ≤ (c.toNat : Int) := by omega
        by_cases h90 : c.toNat ≤ 90
        · have h90I : (c.toNat : Int) ≤ 90 := by omega
          have hor2 := hor ⟨by rw [UInt8.le_iff_toNat_le]; exact h65, by rw [UInt8.le_iff_toNat_le]; exact h90⟩
          clear hor
          go_wp2_with fail
          go_roundw
          case rel =>
            refine ⟨i + 1, by omega, by simp, ?_, hT.setCell _ _ (.inr (by rw [HG.out]; exact Nat.le_refl _))⟩
            rw [← HST.out]
            exact HB.out.set_ i _
          case measure => simp [intOf]; omega
        · have h90I : (90 : Int) < (c.toNat : Int) := by omega
          have e : NM.lo c = c := UInt8.toNat_inj.1 (by rw [NM.lo_toNat, if_neg (by omega)])
          clear hor
          go_wp2_with fail
          go_roundw
          case rel => exact ⟨i + 1, by omega, by simp, by rw [HSM.out e]; exact HB.out, hT⟩
          case measure => simp [intOf]; omega
      · have h65I : (c.toNat : Int) < 65 := by omega
        have e : NM.lo c = c := UInt8.toNat_inj.1 (by rw [NM.lo_toNat, if_neg (by omega)])
        clear hor
        go_wp2_with fail
        go_roundw
        case rel => exact ⟨i + 1, by omega, by simp, by rw [HSM.out e]; exact HB.out, hT⟩
        case measure => simp [intOf]; omega
    · have hge : (s.size : Int) ≤ (i : Int) := by omega
      have hlow : half (bs s) i = NM.lower (bs s) := by rw [show i = (bs s).length by rw [NM.bs_length]; omega, half_end]
      have hbk := bytes_back wo G (half (bs s) i) cw hb
      rw [half_length _ _ (by rw [NM.bs_length]; exact hi), NM.bs_length, hlow] at hbk
      go_wp2_with fail
      go_ret
      exact ⟨rfl, hT⟩
set_option maxRecDepth 10000 in
set_option maxHeartbeats 4000000 in
theorem keyOfB_any (w : World) (p : Nat) (hp : p < 256) (n : ByteArray) (hn : n.size ≤ 140737488355328) (t c : Nat) :
    Calls Try.prog 40 #[.int .u8 (p : Int), .string n, .int .u16 (t : Int), .int .u16 (c : Int)] w fun e w' => e = .returned (.string (ofBs (CM.keyB p (bs n) (t : Int) (c : Int)))) ∧ Touch [] w w' := by
  have HLO := Lib.hid (fun W => nlowerB_any W n hn)
  have hone := conv_one p hp
  have hfour := conv_four2 t c
  have hfour1 := conv_four t c
  obtain ⟨K, hK⟩ : ∃ K, K = ofBs (CM.keyB p (bs n) (t : Int) (c : Int)) := ⟨_, rfl⟩
  have hK2 : K = (ofBs [UInt8.ofNat p] ++ ofBs (NM.lower (bs n))) ++ ofBs [UInt8.ofNat (t / 256), UInt8.ofNat t, UInt8.ofNat (c / 256), UInt8.ofNat c] := by
    rw [hK, ← NM.ofBs_append, ← NM.ofBs_append]
    rfl
  rw [← hK]
  obtain ⟨P1, hP1⟩ : ∃ x, x = ofBs [UInt8.ofNat p] := ⟨_, rfl⟩
  obtain ⟨P2, hP2⟩ : ∃ x, x = ofBs (NM.lower (bs n)) := ⟨_, rfl⟩
  obtain ⟨P3, hP3⟩ : ∃ x, x = ofBs [UInt8.ofNat (t / 256), UInt8.ofNat t, UInt8.ofNat (c / 256), UInt8.ofNat c] := ⟨_, rfl⟩
  rw [← hP1] at hone hK2
  rw [← hP2] at HLO hK2
  rw [← hP3] at hfour hfour1 hK2
  have hz1 : P1.size = 1 := by rw [hP1, NM.ofBs_size]; rfl
  have hz2 : P2.size = n.size := by rw [hP2, NM.ofBs_size, NM.lower_length, NM.bs_length]
  have hz3 : P3.size = 4 := by rw [hP3, NM.ofBs_size]; rfl
  have z12 : P1.size + P2.size ≤ 9223372036854775807 := by omega
  have z123 : P1.size + P2.size + P3.size ≤ 9223372036854775807 := by omega
  have z3 : (P1 ++ P2).size + P3.size ≤ 9223372036854775807 := by rw [ByteArray.size_append]; omega
  clear hz1 hz2 hz3
  have HK := Lib.hid hK2
  clear hK hK2 hP1 hP2 hP3 hp hn
  have k1 : ∀ o, (((w.alloc (.cells #[.int .u8 (p : Int)] 5)).drew).alloc o).cell? ⟨w.heap.size, 0, none⟩ = some (.int .u8 (p : Int)) := fun o => ((Blk.new w 5 #[.int .u8 (p : Int)]).drew.alloc o).cell 0
  have f0 : ∀ o, (((w.alloc (.cells #[.int .u8 (IntKind.u8.wrap ((t : Int) / 256)), .int .u8 (IntKind.u8.wrap (t : Int)), .int .u8 (IntKind.u8.wrap ((c : Int) / 256)), .int .u8 (IntKind.u8.wrap (c : Int))] 5)).drew).alloc o).cell? ⟨w.heap.size, 0, none⟩ = some (.int .u8 (IntKind.u8.wrap ((t : Int) / 256))) := fun o => ((Blk.new w 5 #[.int .u8 (IntKind.u8.wrap ((t : Int) / 256)), .int .u8 (IntKind.u8.wrap (t : Int)), .int .u8 (IntKind.u8.wrap ((c : Int) / 256)), .int .u8 (IntKind.u8.wrap (c : Int))]).drew.alloc o).cell 0
  have f1 : ∀ o, (((w.alloc (.cells #[.int .u8 (IntKind.u8.wrap ((t : Int) / 256)), .int .u8 (IntKind.u8.wrap (t : Int)), .int .u8 (IntKind.u8.wrap ((c : Int) / 256)), .int .u8 (IntKind.u8.wrap (c : Int))] 5)).drew).alloc o).cell? ⟨w.heap.size, 1, none⟩ = some (.int .u8 (IntKind.u8.wrap (t : Int))) := fun o => ((Blk.new w 5 #[.int .u8 (IntKind.u8.wrap ((t : Int) / 256)), .int .u8 (IntKind.u8.wrap (t : Int)), .int .u8 (IntKind.u8.wrap ((c : Int) / 256)), .int .u8 (IntKind.u8.wrap (c : Int))]).drew.alloc o).cell 1
  have f2 : ∀ o, (((w.alloc (.cells #[.int .u8 (IntKind.u8.wrap ((t : Int) / 256)), .int .u8 (IntKind.u8.wrap (t : Int)), .int .u8 (IntKind.u8.wrap ((c : Int) / 256)), .int .u8 (IntKind.u8.wrap (c : Int))] 5)).drew).alloc o).cell? ⟨w.heap.size, 2, none⟩ = some (.int .u8 (IntKind.u8.wrap ((c : Int) / 256))) := fun o => ((Blk.new w 5 #[.int .u8 (IntKind.u8.wrap ((t : Int) / 256)), .int .u8 (IntKind.u8.wrap (t : Int)), .int .u8 (IntKind.u8.wrap ((c : Int) / 256)), .int .u8 (IntKind.u8.wrap (c : Int))]).drew.alloc o).cell 2
  have f3 : ∀ o, (((w.alloc (.cells #[.int .u8 (IntKind.u8.wrap ((t : Int) / 256)), .int .u8 (IntKind.u8.wrap (t : Int)), .int .u8 (IntKind.u8.wrap ((c : Int) / 256)), .int .u8 (IntKind.u8.wrap (c : Int))] 5)).drew).alloc o).cell? ⟨w.heap.size, 3, none⟩ = some (.int .u8 (IntKind.u8.wrap (c : Int))) := fun o => ((Blk.new w 5 #[.int .u8 (IntKind.u8.wrap ((t : Int) / 256)), .int .u8 (IntKind.u8.wrap (t : Int)), .int .u8 (IntKind.u8.wrap ((c : Int) / 256)), .int .u8 (IntKind.u8.wrap (c : Int))]).drew.alloc o).cell 3
  go_enter Try.func40, Try.ntmps40
  go_wp2_with fail
  first
    | (go_region_with
    (first
      | (go_at_call 55
         refine (HLO.out _).mono ?_
         rintro e w1 ⟨rfl, T1⟩
         have y1 := fun b i (hb : b < _) => World.cell?_of_block (a := (⟨b, i, none⟩ : Addr)) (T1.block b hb (by simp))
         have y2 := fun o b i (hb : b < _) => (World.cell?_of_block (w := w1) (w' := w1.alloc o) (a := (⟨b, i, none⟩ : Addr)) (heap_old w1 o (Nat.lt_of_lt_of_le hb T1.size))).trans (y1 b i hb)
         try have y3 := fun i => World.cell?_of_block (a := (⟨w.heap.size, i, none⟩ : Addr)) (T1.block w.heap.size (by first | (simp; done) | (simp; omega)) (by simp))
         try have y4 := fun i => World.cell?_of_block (a := (⟨w.heap.size + 1, i, none⟩ : Addr)) (T1.block (w.heap.size + 1) (by first | (simp; done) | (simp; omega)) (by simp)))))
    | fail "region"
  all_goals
    as_aux_lemma =>
      go_wp2_with fail
      go_ret
      refine ⟨by rw [HK.out]; rfl, ?_⟩
      repeat' (first | exact Touch.refl _ _ | refine Touch.drew_ ?_ | refine Touch.alloc ?_ _ | refine Touch.trans ?_ T1 (by simp))
end Go.Proofs.Ytibbfihnhlgkeaa

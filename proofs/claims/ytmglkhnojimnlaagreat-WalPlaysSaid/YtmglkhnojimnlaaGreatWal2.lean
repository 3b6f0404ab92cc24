/- Package wal: the iterator over the records of bytes (each$1). -/
import Derived.Test.YtmglkhnojimnlaaGreatWal1
import Derived.RangeFuncNested
import Derived.RangeFuncBound
import Derived.RangeFuncCalls
import Derived.RangeFuncLeaves
import Derived.Shelf.Abstract
import Derived.Shelf.RegionOpen
import Derived.OwnWalkIn
import Derived.TacticsInMore
import Derived.LoopNIn
import Derived.LoopIn
import Derived.Deep.DeepCutAuto
import Derived.Deep.RegionHeld3
namespace Go.Proofs.YtmglkhnojimnlaaGreat
open Go.RowKit Go.Maps Go.Shelf
attribute [local go_sem] Oper.semAt_some

theorem bo_i64 (a b : Nat) (ha : a < 4294967296) (hb : b < 4294967296) : bits .or .i64 (a : Int) (b : Int) = ((a ||| b : Nat) : Int) := by
  unfold bits
  have h1 : (BitVec.ofInt IntKind.i64.bits (a : Int)).toNat = a := by
    show (BitVec.ofInt 64 (a : Int)).toNat = a
    simp; omega
  have h2 : (BitVec.ofInt IntKind.i64.bits (b : Int)).toNat = b := by
    show (BitVec.ofInt 64 (b : Int)).toNat = b
    simp; omega
  have h3 : a ||| b < 4294967296 := Nat.or_lt_two_pow (n := 32) ha hb
  simp only [BitVec.toNat_or, h1, h2]
  rw [IntKind.wrap_i64]
  omega
theorem or_add (i : Nat) {b : Nat} (h : b < 2 ^ i) (a : Nat) : a * 2 ^ i ||| b = a * 2 ^ i + b := by
  have := Nat.shiftLeft_add_eq_or_of_lt h a
  rw [Nat.shiftLeft_eq] at this
  exact this.symm
theorem num_or (a b c d : Nat) (hb : b < 256) (hc : c < 256) (hd : d < 256) : a * 16777216 ||| b * 65536 ||| c * 256 ||| d = a * 16777216 + b * 65536 + c * 256 + d := by
  have h1 : a * 16777216 ||| b * 65536 = (a * 256 + b) * 65536 := (or_add 24 (b := b * 65536) (by omega) a).trans (by omega)
  obtain ⟨x, hx⟩ : ∃ x, x = a * 256 + b := ⟨_, rfl⟩
  have h2 : x * 65536 ||| c * 256 = (x * 256 + c) * 256 := (or_add 16 (b := c * 256) (by omega) x).trans (by omega)
  obtain ⟨y, hy⟩ : ∃ y, y = x * 256 + c := ⟨_, rfl⟩
  have h3 : y * 256 ||| d = y * 256 + d := or_add 8 (b := d) (by omega) y
  rw [h1, ← hx, h2, ← hy, h3, hy, hx]
  omega
theorem num_bits (a b c d : UInt8) : bits .or .i64 (bits .or .i64 (bits .or .i64 ((a.toNat : Int) * 16777216) ((b.toNat : Int) * 65536)) ((c.toNat : Int) * 256)) (d.toNat : Int) = ((a.toNat * 16777216 + b.toNat * 65536 + c.toNat * 256 + d.toNat : Nat) : Int) := by
  have ha := a.toNat_lt
  have hb := b.toNat_lt
  have hc := c.toNat_lt
  have hd := d.toNat_lt
  have e1 : ((a.toNat : Int) * 16777216) = ((a.toNat * 16777216 : Nat) : Int) := by omega
  have e2 : ((b.toNat : Int) * 65536) = ((b.toNat * 65536 : Nat) : Int) := by omega
  have e3 : ((c.toNat : Int) * 256) = ((c.toNat * 256 : Nat) : Int) := by omega
  have l1 : a.toNat * 16777216 ||| b.toNat * 65536 < 4294967296 := Nat.or_lt_two_pow (n := 32) (by omega) (by omega)
  have l2 : a.toNat * 16777216 ||| b.toNat * 65536 ||| c.toNat * 256 < 4294967296 := Nat.or_lt_two_pow (n := 32) l1 (by omega)
  rw [e1, e2, e3, bo_i64 _ _ (by omega) (by omega), bo_i64 _ _ l1 (by omega), bo_i64 _ _ l2 (by omega), num_or _ _ _ _ hb hc hd]
theorem wrap_a (c : UInt8) : wrap64 (c.toNat : Int) = (c.toNat : Int) := IntWalk.wrap64_in _ (by have := c.toNat_lt; omega)
theorem wrap_b (c : UInt8) : wrap64 ((c.toNat : Int) * 16777216) = (c.toNat : Int) * 16777216 := IntWalk.wrap64_in _ (by have := c.toNat_lt; omega)
theorem wrap_c (c : UInt8) : wrap64 ((c.toNat : Int) * 65536) = (c.toNat : Int) * 65536 := IntWalk.wrap64_in _ (by have := c.toNat_lt; omega)
theorem wrap_d (c : UInt8) : wrap64 ((c.toNat : Int) * 256) = (c.toNat : Int) * 256 := IntWalk.wrap64_in _ (by have := c.toNat_lt; omega)
theorem wraps (c0 c1 c2 c3 : UInt8) : wrap64 (c0.toNat : Int) = (c0.toNat : Int) ∧ wrap64 (c1.toNat : Int) = (c1.toNat : Int) ∧ wrap64 (c2.toNat : Int) = (c2.toNat : Int) ∧ wrap64 (c3.toNat : Int) = (c3.toNat : Int) ∧
    wrap64 ((c0.toNat : Int) * 16777216) = (c0.toNat : Int) * 16777216 ∧ wrap64 ((c1.toNat : Int) * 65536) = (c1.toNat : Int) * 65536 ∧ wrap64 ((c2.toNat : Int) * 256) = (c2.toNat : Int) * 256 :=
  ⟨wrap_a c0, wrap_a c1, wrap_a c2, wrap_a c3, wrap_b c0, wrap_c c1, wrap_d c2⟩
theorem toList_ne {a b : ByteArray} (h : a ≠ b) : (a.toList == b.toList) = false := by
  rw [beq_eq_false_iff_ne]
  intro he
  rw [ByteArray.toList_eq, ByteArray.toList_eq] at he
  exact h (bs_inj he)
theorem bs_get (s : ByteArray) (i : Nat) (h : i < s.size) : (bs s).getD i 0 = s[i] := by
  have h9 : (bs s)[i]? = some (s[i]'h) := by
    show s.data.toList[i]? = _
    rw [Array.getElem?_toList, Array.getElem?_eq_getElem h]
    rfl
  rw [List.getD_eq_getElem?_getD, h9]
  rfl
theorem bs_extract (s : ByteArray) (i j : Nat) : bs (s.extract i j) = ((bs s).drop i).take (j - i) := by
  simp [bs, ByteArray.data_extract, List.extract_eq_take_drop]

/-- the three cells of the iterator are as they were -/
def Same3 (Bb Bp Ba : Nat) (W W' : World) : Prop := ∀ g ∈ [Bb, Bp, Ba], W'.heap[g]? = W.heap[g]?
theorem Same3.blk {Bb Bp Ba : Nat} {W W' : World} (h : Same3 Bb Bp Ba W W') {g : Nat} {t : TypeId} {cs : Array Value} (hg : g ∈ [Bb, Bp, Ba]) (hb : Blk W g t cs) : Blk W' g t cs := (h g hg).trans hb
def textLen (w : World) (Bb : Nat) : Nat := match w.cell? ⟨Bb, 0, none⟩ with
  | some (.string s) => s.size
  | _ => 0
theorem textLen_eq {w : World} {Bb : Nat} {s : ByteArray} {t : TypeId} (h : Blk w Bb t #[.string s]) : textLen w Bb = s.size := by
  unfold textLen
  rw [h.cell 0]
  rfl
theorem pre_lt {pre : List ByteArray} {x : ByteArray} {l : List WM.Bs} {n N : Nat} {r : List WM.Bs × Nat} (h : r = ((pre ++ [x]).map bs ++ l, n)) (hN : r.1.length ≤ N) : pre.length < N := by
  rw [h] at hN
  simp only [List.length_append, List.length_map, List.length_cons, List.length_nil] at hN
  omega
set_option maxRecDepth 10000 in
set_option maxHeartbeats 4000000 in
theorem each1_any (l Bb Bp Ba N : Nat) (J : List ByteArray → World → Prop) (hJ : ∀ pre W W', J pre W → Touch [Bb, Ba] W W' → J pre W')
    (hY : ∀ m pre x W, J pre W → pre.length < N → YieldAt Fence.wide m Tryz.prog l #[.string x] W fun e W' => e = .returned (.bool true) ∧ J (pre ++ [x]) W' ∧ Same3 Bb Bp Ba W W')
    (w : World) (b : ByteArray) (hbz : b.size ≤ maxLen) (hb : Blk w Bb 9 #[.string b]) (hp : Blk w Bp 98 #[.pointer (some ⟨Ba, 0, none⟩)]) (ha : Blk w Ba 3 #[.int .i64 0]) (h0 : J [] w) (hN : (WM.recs (bs b)).1.length ≤ N) :
    Calls Tryz.prog 97 #[.func (.yield l) #[] #[], .pointer (some ⟨Bb, 0, none⟩), .pointer (some ⟨Bp, 0, none⟩)] w fun e w' => (∃ v, e = .returned v) ∧
      J ((WM.recs (bs b)).1.map ofBs) w' ∧ Blk w' Ba 3 #[.int .i64 ((WM.recs (bs b)).2 : Int)] := by
  have hbp := hb.ne_type hp (by decide)
  have hba := hb.ne_type ha (by decide)
  have hpa := hp.ne_type ha (by decide)
  unfold maxLen at hbz
  have HJ := Lib.hid hJ
  have HY := Lib.hid hY
  have HN := Lib.hid hN
  clear hJ hY hN
  go_enter Tryz.func97, Tryz.ntmps97
  go_wp2_with fail
  go_loopw [] (fun wr => ∃ (at' : Nat) (s : ByteArray) (pre : List ByteArray), Blk wr Bb 9 #[.string s] ∧ Blk wr Bp 98 #[.pointer (some ⟨Ba, 0, none⟩)] ∧ Blk wr Ba 3 #[.int .i64 (at' : Int)] ∧ J pre wr ∧ at' + s.size = b.size ∧
    WM.recs (bs b) = (pre.map bs ++ (WM.recs (bs s)).1, at' + (WM.recs (bs s)).2)) (fun wr => textLen wr Bb)
  case atStart => exact ⟨0, b, [], hb, hp, ha, h0, by omega, by simp⟩
  case round =>
    obtain ⟨at', s, pre, hb', hp', ha', hj, hsz, hre⟩ := hrel
    have HLEN := Lib.hid (textLen_eq hb')
    have hcb : wr.cell? ⟨Bb, 0, none⟩ = some (.string s) := hb'.cell 0
    have hend : (WM.recs (bs s)) = ([], 0) → J ((WM.recs (bs b)).1.map ofBs) wr ∧ Blk wr Ba 3 #[.int .i64 ((WM.recs (bs b)).2 : Int)] := fun h => by
      rw [hre, h]
      refine ⟨?_, by simpa using ha'⟩
      have : (pre.map bs ++ ([] : List WM.Bs)).map ofBs = pre := by
        rw [List.append_nil, List.map_map]
        conv => rhs; rw [← List.map_id pre]
        exact List.map_congr_left (fun x _ => ofBs_bs x)
      simp only [this]
      exact hj
    have HEND := Lib.hid hend
    have HRE := Lib.hid hre
    clear hend hre
    by_cases h8 : s.size < 8
    · have h8I : (s.size : Int) < 8 := by omega
      have he := HEND.out (WM.recs_short (by rw [bs_length]; exact h8))
      go_wp2_with fail
      go_end0
      exact ⟨⟨_, rfl⟩, he⟩
    · have h0 : 0 < s.size := by omega
      have h1 : 1 < s.size := by omega
      have h2 : 2 < s.size := by omega
      have h3 : 3 < s.size := by omega
      have h1I : (1 : Int) < (s.size : Int) := by omega
      have h2I : (2 : Int) < (s.size : Int) := by omega
      have h3I : (3 : Int) < (s.size : Int) := by omega
      have h8I : (8 : Int) ≤ (s.size : Int) := by omega
      have h4I : (4 : Int) ≤ (s.size : Int) := by omega
      obtain ⟨c0, hc0⟩ : ∃ c, s[0] = c := ⟨_, rfl⟩
      obtain ⟨c1, hc1⟩ : ∃ c, s[1] = c := ⟨_, rfl⟩
      obtain ⟨c2, hc2⟩ : ∃ c, s[2] = c := ⟨_, rfl⟩
      obtain ⟨c3, hc3⟩ : ∃ c, s[3] = c := ⟨_, rfl⟩
      have hnum : WM.num4 (bs s) = c0.toNat * 16777216 + c1.toNat * 65536 + c2.toNat * 256 + c3.toNat := by
        unfold WM.num4
        rw [bs_get s 0 h0, bs_get s 1 h1, bs_get s 2 h2, bs_get s 3 h3, hc0, hc1, hc2, hc3]
      have hnb := num_bits c0 c1 c2 c3
      have HW := Lib.hid (wraps c0 c1 c2 c3)
      have HNB := Lib.hid hnb
      have HNUM := Lib.hid hnum
      clear hnb hnum
      go_wp2_with fail
      go_cut [4] from 6 to 65 (fun v wx => v = .int .i64 (WM.num4 (bs s) : Int) ∧ ∃ nq, wx = wr.drewN nq)
      case first =>
        go_quiet (fail)
        obtain ⟨w0, w1, w2, w3, w4, w5, w6⟩ := HW.out
        simp only [w0, w1, w2, w3, w4, w5, w6, HNB.out]
        rw [← HNUM.out]
        go_wp2_with fail
        go_meet
        case rel => exact ⟨rfl, nq, rfl⟩
      case rest =>
      obtain ⟨rfl, nq, hwc⟩ := hcut
      obtain ⟨w1, hw1⟩ : ∃ w1, w1 = wc := ⟨_, rfl⟩
      rw [← hw1] at hwc ⊢
      clear hw1 wc
      have hb1 : Blk w1 Bb 9 #[.string s] := by rw [hwc]; exact hb'.drewN nq
      have hp1 : Blk w1 Bp 98 #[.pointer (some ⟨Ba, 0, none⟩)] := by rw [hwc]; exact hp'.drewN nq
      have ha1 : Blk w1 Ba 3 #[.int .i64 (at' : Int)] := by rw [hwc]; exact ha'.drewN nq
      have hj1 : J pre w1 := HJ.out pre wr w1 hj (by rw [hwc]; exact Touch.drewN _ _ _)
      have he1 : (WM.recs (bs s)) = ([], 0) → J ((WM.recs (bs b)).1.map ofBs) w1 ∧ Blk w1 Ba 3 #[.int .i64 ((WM.recs (bs b)).2 : Int)] := fun h => by
        have := HEND.out h
        exact ⟨HJ.out _ wr w1 this.1 (by rw [hwc]; exact Touch.drewN _ _ _), by rw [hwc]; exact this.2.drewN nq⟩
      have HE1 := Lib.hid he1
      clear he1 hb' hp' ha' hj hwc hcb HEND
      have hcb : w1.cell? ⟨Bb, 0, none⟩ = some (.string s) := hb1.cell 0
      obtain ⟨n, hn⟩ : ∃ n, n = WM.num4 (bs s) := ⟨_, rfl⟩
      have HNUM2 := Lib.hid hn
      have hn32 := WM.num4_lt (bs s)
      rw [← hn] at hn32 ⊢
      clear HNUM HNB HW hn hc0 hc1 hc2 hc3 c0 c1 c2 c3 h1I h2I h3I h0 h1 h2 h3
      by_cases hbig : s.size - 8 < n ∨ 60000 < n
      · have hh : WM.head? (bs s) = none := by
          unfold WM.head?
          rw [bs_length, if_neg h8, ← HNUM2.out, if_pos hbig]
        have he := HE1.out (WM.recs_none hh)
        clear HE1 hh
        by_cases hA : s.size - 8 < n
        · have hAI : (s.size : Int) - 8 < (n : Int) := by omega
          have hwr : wrap64 ((s.size : Int) - 8) = (s.size : Int) - 8 := IntWalk.wrap64_in _ (by omega)
          go_wp2_with fail
          refine bodyPost_ret (results_none rfl _ _ _) rfl ?_
          exact ⟨⟨_, rfl⟩, he⟩
        · have hAI : (n : Int) ≤ (s.size : Int) - 8 := by omega
          have hBI : (60000 : Int) < (n : Int) := by omega
          have hwr : wrap64 ((s.size : Int) - 8) = (s.size : Int) - 8 := IntWalk.wrap64_in _ (by omega)
          go_wp2_with fail
          refine bodyPost_ret (results_none rfl _ _ _) rfl ?_
          exact ⟨⟨_, rfl⟩, he⟩
      · have hA : n ≤ s.size - 8 := by omega
        have hB : n ≤ 60000 := by omega
        have hAI : (n : Int) ≤ (s.size : Int) - 8 := by omega
        have hBI : (n : Int) ≤ 60000 := by omega
        have hwr : wrap64 ((s.size : Int) - 8) = (s.size : Int) - 8 := IntWalk.wrap64_in _ (by omega)
        have hx4 : (s.extract 0 4).size = 4 := by rw [ByteArray.size_extract]; omega
        have hx : (s.extract 8 (8 + n)).size = n := by rw [ByteArray.size_extract]; omega
        have hof : ∀ w g, w.cell? ⟨g, 0, none⟩ = some (.string (s.extract 0 4)) → w.cell? ⟨g, 1, none⟩ = some (.string (s.extract 8 (8 + n))) → Calls Tryz.prog 37 #[.slice (some ⟨g, 0, none⟩) 2 2] w fun e w' => e = .returned (.int .u32 (WM.crc ((bs s).take 4 ++ ((bs s).drop 8).take n) : Int)) ∧ Touch [] w w' := fun w g h0 h1 => by
          have := of_any w g 0 2 [s.extract 0 4, s.extract 8 (8 + n)] (fun i hi => by
            match i, hi with
            | 0, _ => exact h0
            | 1, _ => exact h1) (by simp) (by unfold maxLen; omega) (fun x hx' => by
            simp only [List.mem_cons, List.not_mem_nil, or_false] at hx'
            rcases hx' with rfl | rfl
            · rw [hx4]; unfold maxLen; omega
            · rw [hx]; unfold maxLen; omega)
          simpa [bs_extract] using this
        have hl2 := fun w => long_any w (WM.crc ((bs s).take 4 ++ ((bs s).drop 8).take n)) (WM.crc_lt _)
        obtain ⟨c, hc⟩ : ∃ c, c = WM.crc ((bs s).take 4 ++ ((bs s).drop 8).take n) := ⟨_, rfl⟩
        have HC := Lib.hid hc
        rw [← hc] at hof hl2
        obtain ⟨y, hy⟩ : ∃ y, y = ofBs (WM.be4 c) := ⟨_, rfl⟩
        have HYY := Lib.hid hy
        rw [← hy] at hl2
        have HOF := Lib.hid hof
        have HL2 := Lib.hid hl2
        have HX4 := Lib.hid hx4
        have HXX := Lib.hid hx
        have hbs : bs (s.extract 4 8) = ((bs s).drop 4).take 4 := by rw [bs_extract]
        have HBS := Lib.hid hbs
        clear hof hl2 hc hy hx4 hx hbs
        by_cases hq : y = s.extract 4 8
        · subst hq
          have hhd : WM.head? (bs s) = some (bs (s.extract 8 (8 + n))) := by
            have h4 : WM.be4 c = ((bs s).drop 4).take 4 := by
              rw [← HBS.out, HYY.out, bs_ofBs]
            unfold WM.head?
            rw [bs_length, if_neg h8, ← HNUM2.out, if_neg hbig, ← HC.out, if_pos h4, bs_extract]
            congr 2
            omega
          have hrs := WM.recs_some hhd
          have hdr : bs (s.extract (8 + n) s.size) = (bs s).drop (8 + (bs (s.extract 8 (8 + n))).length) := by
            rw [bs_extract, bs_length, HXX.out, List.take_of_length_le]
            rw [List.length_drop, bs_length]
            exact Nat.le_refl _
          rw [← hdr] at hrs
          have hre2 : WM.recs (bs b) = ((pre ++ [s.extract 8 (8 + n)]).map bs ++ (WM.recs (bs (s.extract (8 + n) s.size))).1, (at' + (8 + n)) + (WM.recs (bs (s.extract (8 + n) s.size))).2) := by
            rw [HRE.out, hrs, bs_length, HXX.out]
            simp only [List.map_append, List.map_cons, List.map_nil, List.append_assoc, List.cons_append, List.nil_append]
            congr 1
            omega
          have hsz2 : at' + (8 + n) + (s.extract (8 + n) s.size).size = b.size := by rw [ByteArray.size_extract]; omega
          have HPL := Lib.hid (pre_lt hre2 HN.out)
          have HRE2 := Lib.hid hre2
          have HSZ2 := Lib.hid hsz2
          clear hre2 hrs hdr hhd HRE HYY HC HBS hsz2 HE1
          have hself : ((s.extract 4 8).toList == (s.extract 4 8).toList) = true := beq_self_eq_true _
          go_upto_region 4 with (fail)
          go_cut [54] from 6 to 65 (fun v wx => v = .bool false ∧ J (pre ++ [s.extract 8 (8 + n)]) wx ∧ Blk wx Bb 9 #[.string s] ∧ Blk wx Bp 98 #[.pointer (some ⟨Ba, 0, none⟩)] ∧ Blk wx Ba 3 #[.int .i64 (at' : Int)])
          case first =>
            refine (wpIn_wide (n := 5)).1 ?_
            have hmx : Tryz.prog.follows .mixedOrders = true := by kernel_rfl
            have hcd : (w1.alloc (.cells #[.string (s.extract 0 4), .string (s.extract 8 (8 + n))] 9)).cell? ⟨Bb, 0, none⟩ = some (.string s) := (hb1.alloc _).cell 0
            have TD : Touch [] w1 (w1.alloc (.cells #[.string (s.extract 0 4), .string (s.extract 8 (8 + n))] 9)).drew := ((Touch.refl [] w1).alloc _).drew_
            gi_region_with_o (first
              | (refine ⟨trivial, ?_⟩
                 gi_at_call 37
                 refine (callsIn_wide.2 (HOF.out _ w1.heap.size ((Blk.new w1 9 _).drew.cell 0) ((Blk.new w1 9 _).drew.cell 1))).mono ?_
                 rintro e w2 ⟨rfl, T2⟩
                 have hc2 : w2.cell? ⟨Bb, 0, none⟩ = some (.string s) := ((TD.trans T2 (by simp)).blk hb1 (by simp)).cell 0)
              | (refine ⟨trivial, ?_⟩
                 gi_at_call 36
                 refine (callsIn_wide.2 (HL2.out _)).mono ?_
                 rintro e w3 ⟨rfl, T3⟩
                 have t3 : Touch [] w1 w3 := (TD.trans T2 (by simp)).trans T3 (by simp)
                 have hc3 : w3.cell? ⟨Bb, 0, none⟩ = some (.string s) := (t3.blk hb1 (by simp)).cell 0
                 have hj3 := HJ.out pre w1 w3 hj1 (t3.mono (by simp))
                 obtain ⟨fn, tmps, assign, body, hyy, hR⟩ := HY.out 4 pre (s.extract 8 (8 + n)) w3 hj3 HPL.out)
              | (with_reducible refine hR.mono ?_
                 rintro e w4 ⟨rfl, hj4, hs4⟩))
            all_goals (go_wp2_with fail; go_meet)
            all_goals exact ⟨rfl, hj4, hs4.blk (by simp) (t3.blk hb1 (by simp)), hs4.blk (by simp) (t3.blk hp1 (by simp)), hs4.blk (by simp) (t3.blk ha1 (by simp))⟩
          case rest =>
          obtain ⟨rfl, hj2, hb2, hp2, ha2⟩ := hcut
          obtain ⟨w5, hw5⟩ : ∃ x, x = wc := ⟨_, rfl⟩
          rw [← hw5] at hj2 hb2 hp2 ha2 ⊢
          clear hw5 wc HOF HL2 HY HX4 hself hcb
          have k1 : w5.cell? ⟨Bp, 0, none⟩ = some (.pointer (some ⟨Ba, 0, none⟩)) := hp2.cell 0
          have k2 : w5.cell? ⟨Ba, 0, none⟩ = some (.int .i64 (at' : Int)) := ha2.cell 0
          have k3 : w5.frozen? ⟨Ba, 0, none⟩ = false := ha2.frozen 0
          have hbw : Blk (w5.setCell ⟨Ba, 0, none⟩ (.int .i64 ((at' : Int) + (8 + (n : Int))))) Bb 9 #[.string s] := hb2.far (p := ⟨Ba, 0, none⟩) hba _
          have k4 : (w5.setCell ⟨Ba, 0, none⟩ (.int .i64 ((at' : Int) + (8 + (n : Int))))).cell? ⟨Bb, 0, none⟩ = some (.string s) := hbw.cell 0
          have k5 : (w5.setCell ⟨Ba, 0, none⟩ (.int .i64 ((at' : Int) + (8 + (n : Int))))).frozen? ⟨Bb, 0, none⟩ = false := hbw.frozen 0
          have hwa : wrap64 ((at' : Int) + (8 + (n : Int))) = (at' : Int) + (8 + (n : Int)) := IntWalk.wrap64_in _ (by omega)
          have hwb : wrap64 (8 + (n : Int)) = 8 + (n : Int) := IntWalk.wrap64_in _ (by omega)
          have hsl : (8 : Int) + (n : Int) ≤ (s.size : Int) := by omega
          go_wp2_with fail
          go_roundw
          case rel =>
            have hv : ((at' : Int) + (8 + (n : Int))) = ((at' + (8 + n) : Nat) : Int) := by omega
            exact ⟨at' + (8 + n), s.extract (8 + n) s.size, pre ++ [s.extract 8 (8 + n)], hbw.set_ 0 _, (hp2.far (p := ⟨Ba, 0, none⟩) hpa _).far (p := ⟨Bb, 0, none⟩) (Ne.symm hbp) _, by rw [← hv]; exact (ha2.set_ 0 _).far (p := ⟨Bb, 0, none⟩) (Ne.symm hba) _,
              HJ.out _ w5 _ hj2 (((Touch.refl _ w5).setCell ⟨Ba, 0, none⟩ _ (.inl (by simp))).setCell ⟨Bb, 0, none⟩ _ (.inl (by simp))), HSZ2.out, HRE2.out⟩
          case measure =>
            rw [textLen_eq (hbw.set_ 0 _), HLEN.out, ByteArray.size_extract]
            omega
        · have hqt : (y.toList == (s.extract 4 8).toList) = false := toList_ne hq
          have hqt2 : (y.toList != (s.extract 4 8).toList) = true := by rw [bne, hqt]; rfl
          have hhd : WM.head? (bs s) = none := by
            have h4 : ¬ WM.be4 c = ((bs s).drop 4).take 4 := by
              rw [← HBS.out]
              exact fun h => hq (by rw [HYY.out, h, ofBs_bs])
            unfold WM.head?
            rw [bs_length, if_neg h8, ← HNUM2.out, if_neg hbig, ← HC.out, if_neg h4]
          have he := HE1.out (WM.recs_none hhd)
          clear HRE HYY HC HBS HE1 hhd
          go_upto_region 4 with (fail)
          go_cut [54] from 6 to 65 (fun v wx => v = .bool true ∧ Touch [] w1 wx)
          case first =>
            have hcd : (w1.alloc (.cells #[.string (s.extract 0 4), .string (s.extract 8 (8 + n))] 9)).cell? ⟨Bb, 0, none⟩ = some (.string s) := (hb1.alloc _).cell 0
            have TD : Touch [] w1 (w1.alloc (.cells #[.string (s.extract 0 4), .string (s.extract 8 (8 + n))] 9)).drew := ((Touch.refl [] w1).alloc _).drew_
            first | (go_region_with (first
              | (go_at_call 37
                 refine (HOF.out _ w1.heap.size ((Blk.new w1 9 _).drew.cell 0) ((Blk.new w1 9 _).drew.cell 1)).mono ?_
                 rintro e w2 ⟨rfl, T2⟩
                 have hc2 : w2.cell? ⟨Bb, 0, none⟩ = some (.string s) := ((TD.trans T2 (by simp)).blk hb1 (by simp)).cell 0)
              | (go_at_call 36
                 refine (HL2.out _).mono ?_
                 rintro e w3 ⟨rfl, T3⟩
                 have t3 : Touch [] w1 w3 := (TD.trans T2 (by simp)).trans T3 (by simp)
                 have hc3 : w3.cell? ⟨Bb, 0, none⟩ = some (.string s) := (t3.blk hb1 (by simp)).cell 0))) | fail "with"
            all_goals (go_wp2_with fail; go_meet)
            all_goals exact ⟨rfl, t3⟩
          case rest =>
          obtain ⟨rfl, T⟩ := hcut
          go_wp2_with fail
          refine bodyPost_ret (results_none rfl _ _ _) rfl ?_
          exact ⟨⟨_, rfl⟩, HJ.out _ _ _ he.1 (T.mono (by simp)), T.blk he.2 (by simp)⟩
end Go.Proofs.YtmglkhnojimnlaaGreat

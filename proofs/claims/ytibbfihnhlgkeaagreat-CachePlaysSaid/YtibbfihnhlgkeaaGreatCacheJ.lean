/- container/heap: down. -/
import Derived.Test.YtibbfihnhlgkeaaGreatCacheH
namespace Go.Proofs.YtibbfihnhlgkeaaGreat
open Go.RowKit Go.Maps Go.Shelf
open NM (Bs bs ofBs)
open CM (It C)

theorem child_lt {m : List It} {k n : Nat} (h : 2 * k + 1 < n) : CM.child m k n < n ∧ k < CM.child m k n := by
  rcases CM.child_cases m k n with h1 | ⟨h1, h2⟩ <;> rw [h1] <;> omega
theorem down_end {f : Nat} {m : List It} {k n : Nat} (h : n ≤ 2 * k + 1) : CM.down (f + 1) m k n = (m, k) := by
  conv => lhs; unfold CM.down
  rw [if_pos h]
theorem down_stop {f : Nat} {m : List It} {k n : Nat} (h : ¬ n ≤ 2 * k + 1) (hl : CM.less m (CM.child m k n) k = false) : CM.down (f + 1) m k n = (m, k) := by
  conv => lhs; unfold CM.down
  rw [if_neg h, if_pos hl]
theorem down_step {f : Nat} {m : List It} {k n : Nat} (h : ¬ n ≤ 2 * k + 1) (hl : CM.less m (CM.child m k n) k = true) : CM.down (f + 1) m k n = CM.down f (CM.swap m k (CM.child m k n)) (CM.child m k n) n := by
  conv => lhs; unfold CM.down
  rw [if_neg h, if_neg (by rw [hl]; decide)]
set_option maxRecDepth 10000 in
set_option maxHeartbeats 1600000 in
theorem down_any (w : World) (B G cap : Nat) (cs : Array Value) (l : List It) (hB : Stale w B G cap l.length cs) (h : Row w G cap l) (i n : Nat) (hi : i < n) (hn : n ≤ l.length) (hmax : n ≤ 1099511627776) :
    Calls Tryz.prog 70 #[.iface 82 (.pointer (some ⟨B, 2, none⟩)), .int .i64 (i : Int), .int .i64 (n : Int)] w fun e w' => e = .returned (.bool (decide (i < (CM.down (n + 1) l i n).2))) ∧ Row w' G cap (CM.down (n + 1) l i n).1 ∧ Touch (G :: l.map It.g) w w' := by
  have hBn := hB.ne h
  have HB := Lib.hid (And.intro hB hBn)
  obtain ⟨R, hR⟩ : ∃ R, R = CM.down (n + 1) l i n := ⟨_, rfl⟩
  rw [← hR]
  have HR := Lib.hid hR
  have HH := Lib.hid h
  obtain ⟨N, hN⟩ : ∃ N, N = l.length := ⟨_, rfl⟩
  have HN := Lib.hid hN
  rw [← hN] at hn HB
  have HNB := Lib.hid (And.intro hi (And.intro hn hmax))
  clear hB hBn h hR hN hi hn hmax
  go_enter Tryz.func70, Tryz.ntmps70
  go_wp2_with fail
  go_loopw [7] (fun v wr => ∃ (k f : Nat) (m : List It), v = .int .i64 (k : Int) ∧ k < n ∧ m.length = N ∧ m.Perm l ∧ Row wr G cap m ∧ Touch (G :: l.map It.g) w wr ∧ n < f + k ∧ CM.down f m k n = R) (fun v _ => n - (intOf v).toNat)
  case atStart => exact ⟨i, n + 1, l, rfl, HNB.out.1, HN.out.symm, List.Perm.refl _, HH.out, Touch.refl _ _, by omega, HR.out.symm⟩
  case round =>
    obtain ⟨k, f, m, rfl, hk, hml, hp, hRow, hT, hkf, hup⟩ := hrel
    obtain ⟨wo, rfl⟩ : ∃ wo, wo = wr := ⟨_, rfl⟩
    obtain ⟨f, rfl⟩ : ∃ f', f = f' + 1 := ⟨f - 1, by omega⟩
    have HML := Lib.hid hml
    have HP := Lib.hid hp
    have HT := Lib.hid hT
    have HU := Lib.hid hup
    have hSt := HB.out.1.touch hT HB.out.2
    have HC := Lib.hid hSt.cell
    have HK := Lib.hid hk
    have HKF := Lib.hid hkf
    have HROW := Lib.hid hRow
    clear hml hp hT hup hSt hRow
    have hmx := HNB.out.2.2
    have b1 : -9223372036854775808 ≤ 2 * (k : Int) ∧ 2 * (k : Int) ≤ 9223372036854775807 := by omega
    have b2 : -9223372036854775808 ≤ 2 * (k : Int) + 1 ∧ 2 * (k : Int) + 1 ≤ 9223372036854775807 := by omega
    have b4 : -9223372036854775808 ≤ 2 * (k : Int) + 1 + 1 ∧ 2 * (k : Int) + 1 + 1 ≤ 9223372036854775807 := by omega
    have b3 : -9223372036854775808 ≤ 2 * (k : Int) + 2 ∧ 2 * (k : Int) + 2 ≤ 9223372036854775807 := by omega
    by_cases h0 : n ≤ 2 * k + 1
    · have h0I : (n : Int) ≤ 2 * (k : Int) + 1 := by omega
      have hE := HU.out.symm.trans (down_end h0)
      have HE := Lib.hid hE
      have h1 : IntKind.i64.wrap (2 * (k : Int)) = 2 * (k : Int) := IntWalk.i64_in _ b1
      have h2 : IntKind.i64.wrap (2 * (k : Int) + 1) = 2 * (k : Int) + 1 := IntWalk.i64_in _ b2
      have h3 : wrap64 (2 * (k : Int) + 1) = 2 * (k : Int) + 1 := IntWalk.wrap64_in _ b2
      clear h0 b1 b2 b3 b4 hE hmx hk hkf
      go_wp2_with fail
      go_ret
      refine ⟨?_, by rw [HE.out]; exact HROW.out, HT.out⟩
      rw [HE.out]
      rfl
    · have h0I : 2 * (k : Int) + 1 < (n : Int) := by omega
      have h0J : ¬ (2 * (k : Int) + 1 < 0) := by omega
      have H0 := Lib.hid h0
      have hjb := child_lt (m := m) (k := k) (n := n) (by omega)
      obtain ⟨j, hj⟩ : ∃ j, j = CM.child m k n := ⟨_, rfl⟩
      rw [← hj] at hjb
      have HJ := Lib.hid (And.intro hj hjb)
      obtain ⟨q, hq⟩ : ∃ q, q = 2 * k + 1 := ⟨_, rfl⟩
      obtain ⟨q2, hq2⟩ : ∃ q2, q2 = 2 * k + 2 := ⟨_, rfl⟩
      have hqI : 2 * (k : Int) + 1 = (q : Int) := by omega
      have hq2I : (q : Int) + 1 = (q2 : Int) := by omega
      have HQ := Lib.hid (And.intro hq hq2)
      have hqn : (q : Int) < (n : Int) := by omega
      have hq0 : ¬ ((q : Int) < 0) := by omega
      have hqnn : q < n := by omega
      have b5 : -9223372036854775808 ≤ (q : Int) + 1 ∧ (q : Int) + 1 ≤ 9223372036854775807 := by omega
      obtain ⟨b, hb⟩ : ∃ b, b = (decide (q2 < n) && CM.less m q2 q) := ⟨_, rfl⟩
      have hjb2 : j = if b = true then q2 else q := by
        rw [hj, hb, hq, hq2]
        unfold CM.child
        by_cases h9 : 2 * k + 2 < n
        · by_cases h8 : CM.less m (2 * k + 2) (2 * k + 1) = true
          · rw [if_pos ⟨h9, h8⟩, if_pos (by simp [h9, h8])]
          · rw [if_neg (fun e => h8 e.2), if_neg (by simp [h8])]
        · rw [if_neg (fun e => h9 e.1), if_neg (by simp [h9])]
      have HJB := Lib.hid hjb2
      have HBB := Lib.hid hb
      have h1 : IntKind.i64.wrap (2 * (k : Int)) = 2 * (k : Int) := IntWalk.i64_in _ b1
      have h2 : IntKind.i64.wrap (2 * (k : Int) + 1) = (q : Int) := (IntWalk.i64_in _ b2).trans hqI
      have h3 : wrap64 (2 * (k : Int) + 1) = (q : Int) := (IntWalk.wrap64_in _ b2).trans hqI
      have h5 : wrap64 ((q : Int) + 1) = (q2 : Int) := (IntWalk.wrap64_in _ b5).trans hq2I
      have HQN := Lib.hid hqnn
      clear hqI hq2I h0 b1 b2 b3 b4 b5 hmx hk hkf hjb hj hq hq2 hjb2 hb h0I h0J hqnn
      go_upto_region 6 with (fail)
      rw [h5]
      clear h5
      go_cut [33] from 12 to 44 (fun v wx => v = .bool b ∧ Touch [] wo wx)
      case first =>
        by_cases h9 : q2 < n
        · have h9I : (q2 : Int) < (n : Int) := by omega
          have HLESS := Lib.hid (iless2 wo G cap N m HML.out HROW.out q2 q (Nat.lt_of_lt_of_le h9 HNB.out.2.1) (Nat.lt_of_lt_of_le HQN.out HNB.out.2.1))
          have HB2 := Lib.hid (show CM.less m q2 q = b by rw [HBB.out]; simp [h9])
          clear h9
          go_wp2_with fail
          rw [meth_less _ _ _ _ HC.out]
          go_wp2_with fail
          refine HLESS.out.mono ?_
          rintro e w1 ⟨rfl, T1⟩
          go_wp2_with fail
          go_meet
          exact ⟨by rw [HB2.out], T1⟩
        · have h9I : (n : Int) ≤ (q2 : Int) := by omega
          have HB2 := Lib.hid (show b = false by rw [HBB.out]; simp [h9])
          clear h9
          go_wp2_with fail
          go_meet
          exact ⟨by rw [HB2.out], Touch.refl _ _⟩
      case rest =>
        obtain ⟨rfl, hTc⟩ := hcut
        obtain ⟨w3, rfl⟩ : ∃ x, x = wc := ⟨_, rfl⟩
        have HTC := Lib.hid (HT.out.trans hTc (by simp))
        have hC3 : w3.cell? ⟨B, 2, none⟩ = some (.slice (some ⟨G, 0, none⟩) N cap) := touch_cell hTc HC.out (by simp)
        have HC3 := Lib.hid hC3
        have hrow3 := HROW.out.touch hTc (by simp) (by simp)
        have hjN : j < N := Nat.lt_of_lt_of_le HJ.out.2.1 HNB.out.2.1
        have hkN : k < N := Nat.lt_of_lt_of_le HK.out HNB.out.2.1
        obtain ⟨r, hr⟩ : ∃ r, r = CM.less m j k := ⟨_, rfl⟩
        have hL := iless2 w3 G cap N m HML.out hrow3 j k hjN hkN
        rw [← hr] at hL
        have HL := Lib.hid hL
        have HRR := Lib.hid hr
        have HROW3 := Lib.hid hrow3
        have HJK := Lib.hid (And.intro hjN hkN)
        have hjq : j = q2 ∧ b = true ∨ j = q ∧ b = false := by
          have := HJB.out
          cases b <;> simp_all
        have HNE := Lib.hid H0.out
        have hfin : ∀ W : World, ∀ wz, Touch [] w3 wz → r = false → (Ending.returned (.bool (decide (i < k))) = .returned (.bool (decide (i < R.2)))) ∧ Row wz G cap R.1 ∧ Touch (G :: l.map It.g) w wz := by
          intro _ wz T hrf
          have hE := HU.out.symm.trans (down_stop H0.out (by rw [← HJ.out.1, ← HRR.out]; exact hrf))
          rw [hE]
          exact ⟨rfl, HROW3.out.touch T (by simp) (by simp), HTC.out.trans T (by simp)⟩
        have HFIN := Lib.hid (hfin w)
        clear hTc hC3 hrow3 hjN hkN hr hL HC HROW hfin
        have hnext : ∀ wz, Touch [] w3 wz → Row wz G cap m ∧ wz.cell? ⟨B, 2, none⟩ = some (.slice (some ⟨G, 0, none⟩) N cap) := fun wz T => ⟨HROW3.out.touch T (by simp) (by simp), touch_cell T HC3.out (by simp)⟩
        have HNEXT := Lib.hid hnext
        have hround : ∀ wz wy, Touch [] w3 wz → r = true → Row wy G cap (CM.swap m k j) → Touch (G :: m.map It.g) wz wy →
            ∃ (k2 f2 : Nat) (m2 : List It), (Value.int .i64 (j : Int)) = .int .i64 (k2 : Int) ∧ k2 < n ∧ m2.length = N ∧ m2.Perm l ∧ Row wy G cap m2 ∧ Touch (G :: l.map It.g) w wy ∧ n < f2 + k2 ∧ CM.down f2 m2 k2 n = R := by
          intro wz wy T hrt hr2 T2
          have h5 : k < m.length := by rw [HML.out]; exact HJK.out.2
          have h6 : j < m.length := by rw [HML.out]; exact HJK.out.1
          have hE := (down_step (f := f) H0.out (by rw [← HJ.out.1, ← HRR.out]; exact hrt)).symm.trans HU.out
          rw [← HJ.out.1] at hE
          exact ⟨j, f, CM.swap m k j, rfl, HJ.out.2.1, by rw [CM.swap_length]; exact HML.out, (CM.swap_perm m k j h5 h6).trans HP.out, hr2, perm_in HP.out (HTC.out.trans T (by simp)) T2, by have := HJ.out.2; have := HKF.out; omega, hE⟩
        have HROUND := Lib.hid hround
        clear hnext hround
        have HSW := Lib.hid (fun wz (hz : Row wz G cap m) => iswap2 wz G cap N m HML.out hz k j HJK.out.2 HJK.out.1 (Nat.ne_of_lt HJ.out.2.2))
        rcases hjq with ⟨rfl, rfl⟩ | ⟨rfl, rfl⟩
        all_goals
          go_wp2_with fail
          rw [meth_less _ _ _ _ HC3.out]
          go_wp2_with fail
          refine HL.out.mono ?_
          rintro e w4 ⟨rfl, T4⟩
          have HT4 := Lib.hid T4
          obtain ⟨hr4, hc4⟩ := HNEXT.out w4 T4
          have HR4 := Lib.hid hr4
          have HC4 := Lib.hid hc4
          clear T4 hr4 hc4
          cases r with
          | false =>
            go_wp2_with fail
            go_ret
            exact HFIN.out w4 HT4.out (by trivial)
          | true =>
            go_wp2_with fail
            rw [meth_swap _ _ _ _ HC4.out]
            go_wp2_with fail
            refine (HSW.out w4 HR4.out).mono ?_
            rintro e w5 ⟨⟨v, rfl⟩, hr5, T5⟩
            have H5 := Lib.hid (And.intro hr5 T5)
            clear hr5 T5
            go_wp2_with fail
            go_roundw
            case rel => exact HROUND.out w4 w5 HT4.out (by trivial) H5.out.1 H5.out.2
            case measure => exact lt_sub_of (x := j) (i := k) rfl rfl (Nat.sub_lt_sub_left HK.out HJ.out.2.2)
end Go.Proofs.YtibbfihnhlgkeaaGreat

/- container/heap: up. -/
import Derived.Test.YtibbfihnhlgkeaaCacheI
namespace Go.Proofs.Ytibbfihnhlgkeaa
open Go.RowKit Go.Maps Go.Shelf
open NM (Bs bs ofBs)
open CM (It C)

/-- the cell of the cache in which the heap's slice stands -/
structure Stale (w : World) (B G cap n : Nat) (cs : Array Value) : Prop where
  blk : Blk w B 61 cs
  at2 : cs[2]? = some (.slice (some ⟨G, 0, none⟩) n cap)
theorem Stale.cell {w : World} {B G cap n : Nat} {cs : Array Value} (h : Stale w B G cap n cs) : w.cell? ⟨B, 2, none⟩ = some (.slice (some ⟨G, 0, none⟩) n cap) := (h.blk.cell 2).trans h.at2
theorem Stale.ne {w : World} {B G cap c n : Nat} {cs : Array Value} {l : List It} (h : Stale w B G cap n cs) (r : Row w G c l) : B ∉ G :: l.map It.g := by
  intro hm
  rcases List.mem_cons.1 hm with e | hm
  · obtain ⟨cur, h1, _⟩ := r.blk
    exact h.blk.ne_type h1 (by decide) e
  · obtain ⟨x, hx, e⟩ := List.mem_map.1 hm
    obtain ⟨i, hi, rfl⟩ := List.mem_iff_getElem.1 hx
    exact h.blk.ne_type (r.items i hi) (by decide) e.symm
theorem Stale.touch {w w' : World} {S : List Nat} {B G cap n : Nat} {cs : Array Value} (h : Stale w B G cap n cs) (t : Touch S w w') (hn : B ∉ S) : Stale w' B G cap n cs := ⟨t.blk h.blk hn, h.at2⟩
theorem up_step {f : Nat} {m : List It} {k : Nat} (h : (k - 1) / 2 ≠ k) (hl : CM.less m k ((k - 1) / 2) = true) : CM.up (f + 1) m k = CM.up f (CM.swap m ((k - 1) / 2) k) ((k - 1) / 2) := by
  conv => lhs; unfold CM.up
  rw [if_neg (by simp [h, hl])]
theorem up_stop {f : Nat} {m : List It} {k : Nat} (h : (k - 1) / 2 = k ∨ CM.less m k ((k - 1) / 2) = false) : CM.up (f + 1) m k = m := by
  conv => lhs; unfold CM.up
  rw [if_pos h]
set_option maxRecDepth 10000 in
set_option maxHeartbeats 800000 in
theorem up_any (w : World) (B G cap : Nat) (cs : Array Value) (l : List It) (hB : Stale w B G cap l.length cs) (h : Row w G cap l) (j : Nat) (hj : j < l.length) :
    Calls Try.prog 61 #[.iface 80 (.pointer (some ⟨B, 2, none⟩)), .int .i64 (j : Int)] w fun e w' => (∃ v, e = .returned v) ∧ Row w' G cap (CM.up (j + 1) l j) ∧ Touch (G :: l.map It.g) w w' := by
  have hBn := hB.ne h
  have HB := Lib.hid (And.intro hB hBn)
  have hml : cap ≤ maxLen := h.le.2
  have hlen : l.length ≤ cap := h.le.1
  obtain ⟨R, hR⟩ : ∃ R, R = CM.up (j + 1) l j := ⟨_, rfl⟩
  rw [← hR]
  have HR := Lib.hid hR
  have HH := Lib.hid h
  obtain ⟨N, hN⟩ : ∃ N, N = l.length := ⟨_, rfl⟩
  have HN := Lib.hid hN
  rw [← hN] at hj hlen HB
  have hmax : N ≤ 9223372036854775807 := by unfold maxLen at hml; omega
  clear hB hBn h hR hN hml hlen
  go_enter Try.func61, Try.ntmps61
  go_wp2_with fail
  go_loopw [1] (fun v wr => ∃ (k f : Nat) (m : List It), v = .int .i64 (k : Int) ∧ k < N ∧ m.length = N ∧ m.Perm l ∧ Row wr G cap m ∧ Touch (G :: l.map It.g) w wr ∧ k < f ∧ CM.up f m k = R) (fun v _ => (intOf v).toNat)
  case atStart => exact ⟨j, j + 1, l, rfl, hj, HN.out.symm, List.Perm.refl _, HH.out, Touch.refl _ _, Nat.lt_succ_self _, HR.out.symm⟩
  case round =>
    obtain ⟨k, f, m, rfl, hk, hml, hp, hRow, hT, hkf, hup⟩ := hrel
    obtain ⟨wo, rfl⟩ : ∃ wo, wo = wr := ⟨_, rfl⟩
    obtain ⟨f, rfl⟩ : ∃ f', f = f' + 1 := ⟨f - 1, by omega⟩
    have HML := Lib.hid hml
    have HP := Lib.hid hp
    have HT := Lib.hid hT
    have HU := Lib.hid hup
    have hSt := HB.out.1.touch hT HB.out.2
    have HC := Lib.hid hSt.cell
    have hmem : ∀ x ∈ m, x.g ∈ l.map It.g := fun x hx => List.mem_map_of_mem (hp.subset hx)
    have HMEM := Lib.hid hmem
    clear hml hp hT hup hSt hmem
    by_cases h0 : k = 0
    · subst h0
      have HE := Lib.hid (HU.out.symm.trans (up_stop (.inl rfl)))
      have h4 : ((0 : Int) == 0) = true := rfl
      clear HC hj
      go_wp2_with fail
      go_returns
      exact ⟨⟨_, rfl⟩, by rw [HE.out]; exact hRow, HT.out⟩
    · have hqn : (k - 1) / 2 < k := by omega
      have hq : ((k : Int) - 1).tdiv 2 = (((k - 1) / 2 : Nat) : Int) := by
        rw [Int.tdiv_eq_ediv_of_nonneg (by omega)]
        omega
      obtain ⟨p, hpq⟩ : ∃ p, p = (k - 1) / 2 := ⟨_, rfl⟩
      rw [← hpq] at hq hqn
      have hpN : p < N := by omega
      have h4 : ((p : Int) == (k : Int)) = false := by simp; omega
      have b1 : -9223372036854775808 ≤ (k : Int) - 1 ∧ (k : Int) - 1 ≤ 9223372036854775807 := by omega
      have b3 : -9223372036854775808 ≤ (p : Int) ∧ (p : Int) ≤ 9223372036854775807 := by omega
      have HPQ := Lib.hid (And.intro hpq (And.intro hqn hpN))
      have HKF := Lib.hid hkf
      have HK := Lib.hid hk
      obtain ⟨r, hr⟩ : ∃ r, r = CM.less m k p := ⟨_, rfl⟩
      have HLESS := Lib.hid (iless2 wo G cap N m HML.out hRow k p hk hpN)
      rw [← hr] at HLESS
      have HRR := Lib.hid hr
      have HROW := Lib.hid hRow
      have h1 : IntKind.i64.wrap ((k : Int) - 1) = (k : Int) - 1 := IntWalk.i64_in _ b1
      have h2 : wrap64 ((k : Int) - 1) = (k : Int) - 1 := IntWalk.wrap64_in _ b1
      have h3 : wrap64 (((k : Int) - 1).tdiv 2) = (p : Int) := by rw [hq]; exact IntWalk.wrap64_in _ b3
      clear hq hr hRow hpq hqn hpN hkf hk hj hmax b1 b3
      go_wp2_with fail
      rw [meth_less _ _ _ _ HC.out]
      go_wp2_with fail
      refine HLESS.out.mono ?_
      rintro e w1 ⟨rfl, T1⟩
      have HT1 := Lib.hid T1
      clear T1 HLESS
      have hC1 : w1.cell? ⟨B, 2, none⟩ = some (.slice (some ⟨G, 0, none⟩) N cap) := touch_cell HT1.out HC.out (by simp)
      have HC1 := Lib.hid hC1
      have hrow1 := HROW.out.touch HT1.out (by simp) (by simp)
      have HROW1 := Lib.hid hrow1
      have HSW := Lib.hid (iswap2 w1 G cap N m HML.out hrow1 p k HPQ.out.2.2 HK.out (Nat.ne_of_lt HPQ.out.2.1))
      clear hC1 hrow1 HC
      cases r with
      | false =>
        have HE := Lib.hid (HU.out.symm.trans (up_stop (.inr (by rw [← HPQ.out.1]; exact HRR.out.symm))))
        clear HSW
        go_wp2_with fail
        go_returns
        exact ⟨⟨_, rfl⟩, by rw [HE.out]; exact HROW1.out, HT.out.trans HT1.out (by simp)⟩
      | true =>
        have hup2 : CM.up f (CM.swap m p k) p = R := by
          have h9 := up_step (f := f) (m := m) (k := k) (by have := HPQ.out; omega) (by rw [← HPQ.out.1]; exact HRR.out.symm)
          rw [HPQ.out.1, ← h9]
          exact HU.out
        have HU2 := Lib.hid hup2
        clear hup2
        go_wp2_with fail
        rw [meth_swap _ _ _ _ HC1.out]
        go_wp2_with fail
        refine HSW.out.mono ?_
        rintro e w2 ⟨⟨v, rfl⟩, hr2, T2⟩
        have HR2 := Lib.hid hr2
        have HT2 := Lib.hid T2
        clear hr2 T2 HSW
        go_wp2_with fail
        go_roundw
        case rel =>
          have h5 : p < m.length := by rw [HML.out]; exact HPQ.out.2.2
          have h6 : k < m.length := by rw [HML.out]; exact HK.out
          refine ⟨p, f, CM.swap m p k, rfl, HPQ.out.2.2, by rw [CM.swap_length]; exact HML.out, (CM.swap_perm m p k h5 h6).trans HP.out, HR2.out, ?_, by have := HPQ.out; have := HKF.out; omega, HU2.out⟩
          exact perm_in HP.out (HT.out.trans HT1.out (by simp)) HT2.out
        case measure => exact HPQ.out.2.1
end Go.Proofs.Ytibbfihnhlgkeaa

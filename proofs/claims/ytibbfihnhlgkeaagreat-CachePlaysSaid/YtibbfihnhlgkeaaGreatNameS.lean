/- The document's names (fingerpostref03): Shared, Same, Under; package name: Same. -/
import Derived.Test.YtibbfihnhlgkeaaGreatNameR
import Derived.IntWalk
namespace Go.Proofs.YtibbfihnhlgkeaaGreat
open Go.RowKit Go.Maps Go.Shelf
open NM (Bs bs ofBs)

theorem str_eq {p q : ByteArray} (h : p = q) : (p.toList == q.toList) = true := by rw [h]; exact beq_self_eq_true _
theorem str_ne {p q : ByteArray} (h : p ≠ q) : (p.toList == q.toList) = false := by
  rw [beq_eq_false_iff_ne]
  intro he
  rw [ByteArray.toList_eq, ByteArray.toList_eq] at he
  exact h (NM.bs_inj he)
/-- labels with small letters, from the last one on -/
def lows (l : Bs) : List Bs := ((labelsOf l).map (fun s => NM.lower (bs s))).reverse
theorem lows_length (l : Bs) : (lows l).length = (labelsOf l).length := by unfold lows; simp
theorem lows_at (l : Bs) (k : Nat) (h : k < (labelsOf l).length) : (lows l)[k]? = some (NM.lower (bs ((labelsOf l)[(labelsOf l).length - 1 - k]!))) := by
  unfold lows
  rw [List.getElem?_reverse (by simpa using h), List.getElem?_map, List.length_map, getElem!_pos (labelsOf l) _ (by omega), List.getElem?_eq_getElem (by omega), Option.map_some]
theorem lows_good {l : Bs} (h : NM.check l = 0) : lows l = ((NM.labels l).map NM.lower).reverse := by
  unfold lows labelsOf
  rw [if_pos h, List.map_map]
  have e : (fun s => NM.lower (bs s)) ∘ ofBs = NM.lower := funext fun x => congrArg NM.lower (NM.bs_ofBs x)
  rw [e]
theorem shared_eq (a b : Bs) : (NM.check a = 0 → NM.check b = 0 → NM.shared a b = (NM.common (lows a) (lows b) : Int)) ∧ (¬ (NM.check a = 0 ∧ NM.check b = 0) → NM.shared a b = -1) := by
  unfold NM.shared
  exact ⟨fun h1 h2 => by rw [if_pos ⟨h1, h2⟩, lows_good h1, lows_good h2], fun h => by rw [if_neg h]⟩
theorem common_go {x y : List Bs} {k : Nat} {u : Bs} (hx : x[k]? = some u) (hy : y[k]? = some u) : NM.common (x.drop k) (y.drop k) = NM.common (x.drop (k + 1)) (y.drop (k + 1)) + 1 := by
  obtain ⟨h1, h2⟩ := List.getElem?_eq_some_iff.1 hx
  obtain ⟨h3, h4⟩ := List.getElem?_eq_some_iff.1 hy
  rw [List.drop_eq_getElem_cons h1, List.drop_eq_getElem_cons h3, NM.common, if_pos (h2.trans h4.symm)]
theorem common_stop {x y : List Bs} {k : Nat} {u v : Bs} (hx : x[k]? = some u) (hy : y[k]? = some v) (h : u ≠ v) : NM.common (x.drop k) (y.drop k) = 0 := by
  obtain ⟨h1, h2⟩ := List.getElem?_eq_some_iff.1 hx
  obtain ⟨h3, h4⟩ := List.getElem?_eq_some_iff.1 hy
  rw [List.drop_eq_getElem_cons h1, List.drop_eq_getElem_cons h3, NM.common, if_neg (by rw [h2, h4]; exact h)]
theorem common_out {x y : List Bs} {k : Nat} (h : x.length ≤ k ∨ y.length ≤ k) : NM.common (x.drop k) (y.drop k) = 0 := by
  have := NM.common_le (x.drop k) (y.drop k)
  simp only [List.length_drop] at this
  omega
theorem lt_of_eq2 {n a b k : Nat} (h1 : a = k + 1) (h2 : b = k) (h : n - (k + 1) < n - k) : n - a < n - b := by rw [h1, h2]; exact h
set_option maxRecDepth 10000 in
set_option maxHeartbeats 4000000 in
theorem rshared_any (w : World) (a b : ByteArray) (ha : a.size ≤ 1099511627776) (hb : b.size ≤ 1099511627776) : Calls Tryz.prog 54 #[.string a, .string b] w fun e w' => e = .returned (.int .i64 (NM.shared (bs a) (bs b))) ∧ Touch [] w w' := by
  have HA := Lib.hid (fun W => rlabels_any W a ha)
  have HB := Lib.hid (fun W => rlabels_any W b hb)
  have hsh := shared_eq (bs a) (bs b)
  obtain ⟨R, hR⟩ : ∃ R, R = NM.shared (bs a) (bs b) := ⟨_, rfl⟩
  rw [← hR] at hsh ⊢
  obtain ⟨c, hc⟩ : ∃ c, c = NM.check (bs a) := ⟨_, rfl⟩
  obtain ⟨d, hd⟩ : ∃ d, d = NM.check (bs b) := ⟨_, rfl⟩
  rw [← hc, ← hd] at hsh
  rw [← hc] at HA
  rw [← hd] at HB
  have lx := (labelsOf_length (bs a)).2.1
  have ly := (labelsOf_length (bs b)).2.1
  have zx := lows_length (bs a)
  have zy := lows_length (bs b)
  have gx := lows_at (bs a)
  have gy := lows_at (bs b)
  have sx : ∀ s ∈ labelsOf (bs a), s.size ≤ 1099511627776 := fun s hs => by
    unfold labelsOf at hs
    split at hs
    · obtain ⟨t, ht, rfl⟩ := List.mem_map.1 hs
      rw [NM.ofBs_size]
      have := NM.scan_short (bs a) t ht
      omega
    · simp at hs
  have sy : ∀ s ∈ labelsOf (bs b), s.size ≤ 1099511627776 := fun s hs => by
    unfold labelsOf at hs
    split at hs
    · obtain ⟨t, ht, rfl⟩ := List.mem_map.1 hs
      rw [NM.ofBs_size]
      have := NM.scan_short (bs b) t ht
      omega
    · simp at hs
  obtain ⟨X, hX⟩ : ∃ X, X = lows (bs a) := ⟨_, rfl⟩
  obtain ⟨Y, hY⟩ : ∃ Y, Y = lows (bs b) := ⟨_, rfl⟩
  simp only [← hX] at hsh zx gx
  simp only [← hY] at hsh zy gy
  obtain ⟨L, hL⟩ : ∃ L, L = labelsOf (bs a) := ⟨_, rfl⟩
  obtain ⟨M, hM⟩ : ∃ M, M = labelsOf (bs b) := ⟨_, rfl⟩
  simp only [← hL] at lx zx gx sx HA
  simp only [← hM] at ly zy gy sy HB
  have HSH := Lib.hid hsh
  have HX := Lib.hid (And.intro zx (And.intro gx sx))
  have HY := Lib.hid (And.intro zy (And.intro gy sy))
  clear hsh zx zy gx gy sx sy hX hY hL hM hc hd hR
  go_enter Tryz.func54, Tryz.ntmps54
  go_wp2_with fail
  refine (HA.out _).mono ?_
  rintro e w1 ⟨v1, rfl, hv1, T1⟩
  go_wp2_with fail
  refine (HB.out _).mono ?_
  rintro e w2 ⟨v2, rfl, hv2, T2⟩
  have hv1' := trow_touch hv1 T2 (by simp)
  obtain ⟨ax, cx, rfl, hcx, hmx, hx⟩ := TRow.shape hv1'
  obtain ⟨ay, cy, rfl, hcy, hmy, hy⟩ := TRow.shape hv2
  have HXR := Lib.hid hx
  have HYR := Lib.hid hy
  have HT := Lib.hid (T1.trans T2 (by simp))
  clear hv1 hv2 hv1' hx hy T1 T2
  by_cases hcd : c = 0 ∧ d = 0
  · obtain ⟨rfl, rfl⟩ := hcd
    have h9 := HSH.out.1 rfl rfl
    have H9 := Lib.hid h9
    clear h9
    go_wp2_with fail
    go_loopw [9] (fun v wr => ∃ k : Nat, v = .int .i64 (k : Int) ∧ k ≤ L.length ∧ k ≤ M.length ∧ R = (k : Int) + (NM.common (X.drop k) (Y.drop k) : Int) ∧ Touch [] w2 wr) (fun v _ => L.length - (intOf v).toNat)
    case atStart => exact ⟨0, rfl, Nat.zero_le _, Nat.zero_le _, by rw [H9.out]; simp, Touch.refl _ _⟩
    case round =>
      obtain ⟨k, rfl, hkL, hkM, hk, hT⟩ := hrel
      obtain ⟨wo, rfl⟩ : ∃ wo, wo = wr := ⟨_, rfl⟩
      have HK := Lib.hid hk
      have HTT := Lib.hid hT
      clear hk hT
      by_cases h1 : k < L.length
      · have h1I : (k : Int) < (L.length : Int) := by omega
        by_cases h2 : k < M.length
        · have h2I : (k : Int) < (M.length : Int) := by omega
          obtain ⟨g1, rfl, _, l1, c1⟩ := HXR.out (L.length - 1 - k) (by omega)
          obtain ⟨g2, rfl, _, l2, c2⟩ := HYR.out (M.length - 1 - k) (by omega)
          have e1 := HX.out.2.1 k h1
          have e2 := HY.out.2.1 k h2
          rw [← getElem!_pos L _ (show L.length - 1 - k < L.length by omega)] at c1
          rw [← getElem!_pos M _ (show M.length - 1 - k < M.length by omega)] at c2
          have s1 := HX.out.2.2 (L[L.length - 1 - k]!) (by rw [getElem!_pos L _ (show L.length - 1 - k < L.length by omega)]; exact List.getElem_mem _)
          have s2 := HY.out.2.2 (M[M.length - 1 - k]!) (by rw [getElem!_pos M _ (show M.length - 1 - k < M.length by omega)]; exact List.getElem_mem _)
          obtain ⟨p, hp⟩ : ∃ p, p = L[L.length - 1 - k]! := ⟨_, rfl⟩
          obtain ⟨q, hq⟩ : ∃ q, q = M[M.length - 1 - k]! := ⟨_, rfl⟩
          rw [← hp] at c1 e1 s1
          rw [← hq] at c2 e2 s2
          have c1 := touch_cell HTT.out c1 (by simp)
          have c2 := touch_cell HTT.out c2 (by simp)
          have HL1 := Lib.hid (fun W => rlower_any W p s1)
          have HL2 := Lib.hid (fun W => rlower_any W q s2)
          obtain ⟨P, hP⟩ : ∃ P, P = ofBs (NM.lower (bs p)) := ⟨_, rfl⟩
          obtain ⟨Q, hQ⟩ : ∃ Q, Q = ofBs (NM.lower (bs q)) := ⟨_, rfl⟩
          rw [← hP] at HL1
          rw [← hQ] at HL2
          have hPQ : NM.lower (bs p) = NM.lower (bs q) ↔ P = Q := by
            rw [hP, hQ]
            exact ⟨fun h => by rw [h], fun h => by have := congrArg bs h; rwa [NM.bs_ofBs, NM.bs_ofBs] at this⟩
          have HGO := Lib.hid (fun h : P = Q => common_go e1 (by rw [e2, hPQ.2 h]))
          have HST := Lib.hid (fun h : P ≠ Q => common_stop e1 e2 (fun e => h (hPQ.1 e)))
          clear hPQ e1 e2 s1 s2 hp hq hP hQ
          obtain ⟨n, hn⟩ : ∃ n, n = L.length := ⟨_, rfl⟩
          obtain ⟨m, hm⟩ : ∃ m, m = M.length := ⟨_, rfl⟩
          obtain ⟨i, hi⟩ : ∃ i, i = n - 1 - k := ⟨_, rfl⟩
          obtain ⟨j, hj⟩ : ∃ j, j = m - 1 - k := ⟨_, rfl⟩
          have x1 : IntKind.i64.wrap ((n : Int) - 1) = (n : Int) - 1 := IntWalk.i64_in _ (by omega)
          have x2 : IntKind.i64.wrap ((n : Int) - 1 - (k : Int)) = (i : Int) := (IntWalk.i64_in _ (by omega)).trans (by omega)
          have x3 : IntKind.i64.wrap ((m : Int) - 1) = (m : Int) - 1 := IntWalk.i64_in _ (by omega)
          have x4 : IntKind.i64.wrap ((m : Int) - 1 - (k : Int)) = (j : Int) := (IntWalk.i64_in _ (by omega)).trans (by omega)
          have u1 : (i : Int) < (n : Int) := by omega
          have u2 : (j : Int) < (m : Int) := by omega
          have hwr : wrap64 ((k : Int) + 1) = (k : Int) + 1 := IntWalk.wrap64_in _ (by omega)
          rw [← hn] at h1I c1 ⊢
          rw [← hm] at h2I c2 ⊢
          rw [← hi] at c1
          rw [← hj] at c2
          have HN := Lib.hid hn
          have HM := Lib.hid hm
          clear hi hj hn hm
          obtain ⟨eqb, heq⟩ : ∃ eqb, (P.toList == Q.toList) = eqb := ⟨_, rfl⟩
          have HEQ := Lib.hid heq
          go_upto_region 6 with (fail)
          go_cut [56] from 26 to 58 (fun v wx => v = .bool eqb ∧ Touch [] w2 wx)
          case first =>
            clear HGO HST HK HXR HYR HA HB HX HY HSH HN HM hwr HEQ h1 h2 hkL hkM lx ly
            go_region_held3 (fun W => W.cell? ⟨g1, i, none⟩ = some (.string p) ∧ W.cell? ⟨g2, j, none⟩ = some (.string q)) (first | exact ⟨c1, c2⟩ | exact ⟨y1, y2⟩ | exact ⟨z1, z2⟩)
              (first
                | (go_at_call 48
                   refine (HL1.out _).mono ?_
                   clear HL1
                   rintro e w3 ⟨rfl, t3⟩
                   have y1 := touch_cell t3 (show World.cell? _ _ = some (.string p) from c1) (by simp)
                   have y2 := touch_cell t3 (show World.cell? _ _ = some (.string q) from c2) (by simp))
                | (go_at_call 48
                   refine (HL2.out _).mono ?_
                   rintro e w4 ⟨rfl, t4⟩
                   have z1 := touch_cell t4 (show World.cell? _ _ = some (.string p) from y1) (by simp)
                   have z2 := touch_cell t4 (show World.cell? _ _ = some (.string q) from y2) (by simp)))
            all_goals
              go_wp2_with fail
              go_meet
              exact ⟨rfl, HTT.out.trans (((Touch.refl [] wo).drew_.trans t3 (by simp)).trans t4 (by simp)) (by simp)⟩
          case rest =>
          obtain ⟨rfl, hTc⟩ := hcut
          have HTC := Lib.hid hTc
          have HNK := Lib.hid (And.intro hkL (And.intro hkM (And.intro h1 h2)))
          clear x1 x2 x3 x4 u1 u2 c1 c2 h1I h2I HL1 HL2 hTc hkL hkM h1 h2 HXR HYR HA HB HX HY HSH
          cases eqb with
          | true =>
            have hpq : P = Q := NM.bs_inj (by have := beq_iff_eq.1 HEQ.out; rw [ByteArray.toList_eq, ByteArray.toList_eq] at this; exact this)
            have H9 := Lib.hid (HGO.out hpq)
            clear heq hpq
            go_wp2_with fail
            go_roundw
            case rel =>
              obtain ⟨q1, q2, q3, q4⟩ := HNK.out
              refine ⟨k + 1, by rw [hwr]; rfl, by rw [HN.out]; exact q3, by rw [HM.out]; exact q4, ?_, HTC.out⟩
              rw [HK.out, H9.out]
              omega
            case measure =>
              have q5 := HN.out
              obtain ⟨q1, q2, q3, q4⟩ := HNK.out
              have q6 : k < n := by rw [q5]; exact q3
              have q7 : n - (k + 1) < n - k := Nat.sub_lt_sub_left q6 (Nat.lt_succ_self k)
              have q8 : (intOf (.int .i64 (wrap64 ((k : Int) + 1)))).toNat = k + 1 := by rw [hwr]; show ((k : Int) + 1).toNat = k + 1; omega
              have q9 : (intOf (.int .i64 (k : Int))).toNat = k := rfl
              exact lt_of_eq2 q8 q9 q7
          | false =>
            have hpq : P ≠ Q := fun e => by have := str_eq e; rw [HEQ.out] at this; cases this
            have h9 := HK.out
            rw [HST.out hpq] at h9
            have h9 : R = (k : Int) := by rw [h9]; simp
            have H9 := Lib.hid h9
            clear heq hpq h9
            go_wp2_with fail
            go_ret
            exact ⟨by rw [H9.out]; rfl, HT.out.trans HTC.out (by simp)⟩
        · have h2I : (M.length : Int) ≤ (k : Int) := by omega
          have h9 := HK.out
          rw [common_out (.inr (by rw [HY.out.1]; omega))] at h9
          have h9 : R = (k : Int) := by rw [h9]; simp
          have H9 := Lib.hid h9
          clear h9
          go_wp2_with fail
          go_quiet (fail)
          go_wp2_with fail
          go_ret
          exact ⟨by rw [H9.out]; rfl, (HT.out.trans HTT.out (by simp)).drewN_ nq⟩
      · have h1I : (L.length : Int) ≤ (k : Int) := by omega
        have h9 := HK.out
        rw [common_out (.inl (by rw [HX.out.1]; omega))] at h9
        have h9 : R = (k : Int) := by rw [h9]; simp
        have H9 := Lib.hid h9
        clear h9
        go_wp2_with fail
        go_quiet (fail)
        go_wp2_with fail
        go_ret
        exact ⟨by rw [H9.out]; rfl, (HT.out.trans HTT.out (by simp)).drewN_ nq⟩
  · have h9 := HSH.out.2 hcd
    have H9 := Lib.hid h9
    clear h9
    by_cases h0 : c = 0
    · have h1 : d ≠ 0 := fun e => hcd ⟨h0, e⟩
      clear hcd
      go_wp2_with fail
      go_ret
      exact ⟨by rw [H9.out]; rfl, HT.out⟩
    · clear hcd
      go_wp2_with fail
      go_ret
      exact ⟨by rw [H9.out]; rfl, HT.out⟩
end Go.Proofs.YtibbfihnhlgkeaaGreat

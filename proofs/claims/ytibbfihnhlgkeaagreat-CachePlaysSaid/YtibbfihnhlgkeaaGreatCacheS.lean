/- The law's small things: short, entry; New, Len, copied, Clone. -/
import Derived.Test.YtibbfihnhlgkeaaGreatCacheC
namespace Go.Proofs.YtibbfihnhlgkeaaGreat
open Go.RowKit Go.Maps Go.Shelf
open NM (Bs bs ofBs)

theorem cshort_any (w : World) (s : ByteArray) (n : Nat) (hs : (s.size : Int) ≤ 9223372036854775807) : Calls Tryz.prog 25 #[.string s, .int .i64 (n : Int)] w fun e w' => e = .returned (.string (s.extract 0 n)) ∧ w' = w := by
  by_cases h : n < s.size
  · have hI : (n : Int) < (s.size : Int) := by omega
    have hI2 : (n : Int) ≤ (s.size : Int) := by omega
    have HN := Lib.hid h
    clear h
    go_enter Tryz.func25, Tryz.ntmps25
    go_wp2_with fail
    go_ret
    exact ⟨by rfl, rfl⟩
  · have hI : (s.size : Int) ≤ (n : Int) := by omega
    have HX := Lib.hid (show s.extract 0 n = s from NM.bs_inj (by rw [NM.bs_extract, List.drop_zero, List.take_of_length_le (by rw [NM.bs_length]; omega)]))
    clear h
    go_enter Tryz.func25, Tryz.ntmps25
    go_wp2_with fail
    go_ret
    exact ⟨by rw [HX.out]; rfl, rfl⟩
theorem cnew_any (w : World) (n : Int) : Calls Tryz.prog 5 #[.int .i64 n] w fun e w' => e = .returned (.pointer (some ⟨w.heap.size, 0, none⟩)) ∧
    w' = w.alloc (.cells #[.int .i64 (min (max n 1) 100000), .map none, .slice none 0 0, .int .i64 0] 56) := by
  by_cases h0 : n = 1
  · subst h0
    go_enter Tryz.func5, Tryz.ntmps5
    go_wp2_with fail
    all_goals
      go_ret
      exact ⟨rfl, rfl⟩
  by_cases h1 : n ≤ 1
  · have hm : min (max n 1) 100000 = 1 := by omega
    have h2 : n < 1 := by omega
    have h3 : ¬ 1 ≤ n := by omega
    rw [hm]
    clear hm h0
    go_enter Tryz.func5, Tryz.ntmps5
    go_wp2_with fail
    all_goals
      go_ret
      exact ⟨rfl, rfl⟩
  · by_cases h2 : n ≤ 100000
    · have hm : min (max n 1) 100000 = n := by omega
      rw [hm]
      clear hm
      have h3 : 1 < n := by omega
      have h4 : 1 ≤ n := by omega
      clear h1
      go_enter Tryz.func5, Tryz.ntmps5
      go_wp2_with fail
      all_goals
        go_ret
        exact ⟨rfl, rfl⟩
    · have hm : min (max n 1) 100000 = 100000 := by omega
      rw [hm]
      clear hm
      have h3 : 1 < n := by omega
      have h4 : 1 ≤ n := by omega
      have h5 : 100000 < n := by omega
      clear h1 h2
      go_enter Tryz.func5, Tryz.ntmps5
      go_wp2_with fail
      all_goals
        go_ret
        exact ⟨rfl, rfl⟩
theorem infoRR : (Tryz.prog.info? 60).map (fun i => (i.zero, i.size, i.bytes)) = some (some (.agg #[.string ⟨#[]⟩, .int .u16 0, .int .u16 0, .int .u32 0, .string ⟨#[]⟩]), 5, 40) := by kernel_rfl
/-- records' cells in a row -/
def flat (l : List CM.R) : List Value := (l.map (fun r => (recV r).toList)).flatten
theorem flat_cons (r : CM.R) (l : List CM.R) : flat (r :: l) = (recV r).toList ++ flat l := by unfold flat; rw [List.map_cons, List.flatten_cons]
theorem flat_length : ∀ l : List CM.R, (flat l).length = l.length * 5
  | [] => rfl
  | r :: l => by rw [flat_cons, List.length_append, flat_length l]; simp [recV]; omega
theorem flat_append (l m : List CM.R) : flat (l ++ m) = flat l ++ flat m := by unfold flat; rw [List.map_append, List.flatten_append]
theorem flat_at : ∀ (l : List CM.R) (i : Nat) (hi : i < l.length) (j : Nat), j < 5 → (flat l)[i * 5 + j]? = (recV l[i])[j]?
  | r :: l, 0, _, j, hj => by
    rw [flat_cons, List.getElem?_append_left (by simp [recV]; omega), Nat.zero_mul, Nat.zero_add, Array.getElem?_toList]
    rfl
  | r :: l, i + 1, hi, j, hj => by
    have h5 : (recV r).toList.length = 5 := rfl
    rw [flat_cons, List.getElem?_append_right (by rw [h5]; omega), h5, show (i + 1) * 5 + j - 5 = i * 5 + j by omega, flat_at l i (by simpa using hi) j hj]
    rfl
theorem flat_cell {l : List CM.R} : ∀ u ∈ flat l, u.oneCell' = true := by
  intro u hu
  unfold flat at hu
  obtain ⟨x, hx, hu⟩ := List.mem_flatten.1 hu
  obtain ⟨r, _, rfl⟩ := List.mem_map.1 hx
  simp [recV] at hu
  rcases hu with rfl | rfl | rfl | rfl | rfl <;> rfl
theorem RecsAt.news {W : World} {a : Option Addr} {n cap : Nat} {l : List CM.R} (h : RecsAt W (.slice a n cap) l) (ad : Addr) (ha : a = some ad) : ∀ j u, (flat l)[j]? = some u → W.cell? (ad.add j) = some u := by
  intro j u hu
  obtain ⟨a', cap', h1, h2, h3, h4⟩ := h
  have hj : j < l.length * 5 := by rw [← flat_length]; exact (List.getElem?_eq_some_iff.1 hu).1
  obtain ⟨g, off, hag, hg, hc⟩ := h4 (by omega)
  injection h1 with e1 e2 e3
  rw [ha, hag] at e1
  have e4 : ad = ⟨g, off, none⟩ := by injection e1
  have hi : j / 5 < l.length := by omega
  have e5 := hc (j / 5) hi (j % 5) (by omega)
  rw [show j / 5 * 5 + j % 5 = j by omega, ← flat_at l (j / 5) hi (j % 5) (by omega), show j / 5 * 5 + j % 5 = j by omega, hu] at e5
  have e6 : ad.add j = ⟨g, off + j, none⟩ := by rw [e4]; unfold Addr.add; split <;> simp_all
  rw [e6]
  exact e5
theorem RecsAt.of_row {W : World} {B : Nat} {v : Value} {l : List CM.R} (h : W.ownsRow B 60 5 v l.length (flat l)) : RecsAt W v l ∧ (∀ g off n c, v = .slice (some ⟨g, off, none⟩) n c → B ≤ g) := by
  obtain ⟨_, h⟩ := h
  rcases h with ⟨rfl, h0⟩ | ⟨g, cap, cur, rfl, h1, h2, h3, h4, h5, h6⟩
  · exact ⟨⟨none, 0, by rw [h0], by omega, by unfold maxLen; omega, fun h => by omega⟩, by intro g off n c e; cases e⟩
  · refine ⟨⟨some ⟨g, 0, none⟩, cap, rfl, h3, h4, fun hp => ⟨g, 0, rfl, (Array.getElem?_eq_some_iff.1 h2).1, fun i hi j hj => ?_⟩⟩, ?_⟩
    · rw [cell_of_row W g _ cur _ (0, 0) h2, Nat.zero_add, ← flat_at l i hi j hj, ← h6, List.getElem?_take, if_pos (by omega), Array.getElem?_toList]
    · intro g' off n c e
      injection e with e1
      injection e1 with e1
      injection e1 with e1
      omega
set_option maxRecDepth 10000 in
set_option maxHeartbeats 400000 in
/-- the records' row of a clone -/
theorem clone_own (w : World) (rv : Value) (l : List CM.R) (h : RecsAt w rv l) (hl : l.length ≤ 1000) : Calls Tryz.prog 59 #[rv] w fun e w' => ∃ v, e = .returned v ∧ w'.ownsRow w.heap.size 60 5 v l.length (flat l) ∧ Touch [] w w' := by
  obtain ⟨a, cap, rfl, h2, h3, h4⟩ := h
  cases a with
  | none =>
    have hl0 : l.length = 0 := by
      rcases Nat.eq_zero_or_pos l.length with h | h
      · exact h
      · obtain ⟨g, off, e, _⟩ := h4 h; cases e
    have HL := Lib.hid hl0
    have qT : ∀ (w : World) (a : Option Addr) (n c n' c' : Nat), (binOp .eql 29 (.slice a n c) (.slice none n' c')).run Tryz.prog w = .ok (.bool a.isNone) w := fun w a n c n' c' => Lib.run_eql_slice_nil w _ _ a n c n' c' Tryz.underlying29
    clear h2 h3 h4 hl hl0
    go_enter Tryz.func59, Tryz.ntmps59
    go_wp2_with fail
    go_ret
    have hl1 : l = [] := List.length_eq_zero_iff.1 HL.out
    subst hl1
    exact ⟨.slice none 0 0, rfl, World.ownsRow_nil _ _ _ _, Touch.refl _ _⟩
  | some ad =>
    obtain ⟨i0, hi, hz0, hz1, hz2⟩ := info_parts infoRR
    have HI := Lib.hid (And.intro hi (And.intro hz0 (And.intro hz1 hz2)))
    have hrec : RecsAt w (.slice (some ad) l.length cap) l := ⟨some ad, cap, rfl, h2, h3, h4⟩
    have HRN := Lib.hid ((hrec.touch0 ((Touch.refl [] w).alloc (.cells #[] 60))).news ad rfl)
    have HROW := Lib.hid (World.ownsRow_made (base := w.heap.size) (e := 60) (size := 5) w #[] 0 (Nat.le_refl _) (by unfold maxLen; omega) (by simp))
    have HB := Lib.hid (And.intro (show 0 + l.length ≤ maxLen by unfold maxLen; omega) (show (0 + l.length) * 40 ≤ 140737488355328 by omega))
    have qT : ∀ (w : World) (a : Option Addr) (n c n' c' : Nat), (binOp .eql 29 (.slice a n c) (.slice none n' c')).run Tryz.prog w = .ok (.bool a.isNone) w := fun w a n c n' c' => Lib.run_eql_slice_nil w _ _ a n c n' c' Tryz.underlying29
    clear h2 h3 h4 hl hi hz0 hz1 hz2 hrec
    go_enter Tryz.func59, Tryz.ntmps59
    go_wp2_with (at_builtin; refine wpList_append_own _ rfl (.tmp 5) (.tmp 6) 29 rfl w.heap.size 60 i0 _ 5 40 Tryz.underlying29 HI.out.1 HI.out.2.1 HI.out.2.2.1 HI.out.2.2.2 rfl (by decide) (.slice (some ⟨w.heap.size, 0, none⟩) 0 0) 0 [] rfl HROW.out ad l.length cap (flat l) rfl (flat_length l) HRN.out flat_cell HB.out.1 HB.out.2 (by simp) ?_; intro v' w2 hown' hgrow _)
    go_ret
    have hown : w2.ownsRow w.heap.size 60 5 v' l.length (flat l) := by
      have h9 := hown'
      rw [Nat.zero_add, List.nil_append] at h9
      exact h9
    exact ⟨v', rfl, hown, ((Touch.refl [] w).alloc _).trans (Touch.of_grown hgrow) (fun k hk => .inr (by simp [Value.ownBlock] at hk; omega))⟩
end Go.Proofs.YtibbfihnhlgkeaaGreat

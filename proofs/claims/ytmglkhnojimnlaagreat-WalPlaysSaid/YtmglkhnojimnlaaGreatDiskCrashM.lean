/- A crash as plain data: file by file. No program here. -/
import Derived.Test.YtmglkhnojimnlaaGreatDiskNames
namespace Go.Proofs.YtmglkhnojimnlaaGreat.DM

def picksL : FL → List Int → List Int
  | [], ps => ps
  | p :: l, ps => picksL l (tear p.2 ps).2
theorem crashL_append : ∀ (l : FL) (q : N × F) (ps : List Int), crashL (l ++ [q]) ps = crashL l ps ++ [(q.1, (tear q.2 (picksL l ps)).1)]
  | [], q, ps => rfl
  | p :: l, q, ps => by simp only [List.cons_append, crashL, picksL, crashL_append l q]
theorem picksL_append : ∀ (l : FL) (q : N × F) (ps : List Int), picksL (l ++ [q]) ps = (tear q.2 (picksL l ps)).2
  | [], q, ps => rfl
  | p :: l, q, ps => by simp only [List.cons_append, picksL, picksL_append l q]
theorem length_crashL : ∀ (l : FL) (ps : List Int), (crashL l ps).length = l.length
  | [], _ => rfl
  | p :: l, ps => by simp [crashL, length_crashL l]
def half (l : FL) (ps : List Int) (i : Nat) : FL := crashL (l.take i) ps ++ l.drop i
theorem half_zero (l : FL) (ps : List Int) : half l ps 0 = l := by simp [half, crashL]
theorem half_all (l : FL) (ps : List Int) : half l ps l.length = crashL l ps := by simp [half]
theorem names_half (l : FL) (ps : List Int) (i : Nat) : names (half l ps i) = names l := by
  unfold half
  have h1 := names_crash (l.take i) ps
  unfold names at h1 ⊢
  rw [List.map_append, h1, ← List.map_append, List.take_append_drop]
theorem length_half (l : FL) (ps : List Int) (i : Nat) : (half l ps i).length = l.length := by
  have := congrArg List.length (names_half l ps i)
  simpa [names] using this
theorem sorted_half {l : FL} (h : Sorted l) (ps : List Int) (i : Nat) : Sorted (half l ps i) := by unfold Sorted; rw [names_half]; exact h
theorem half_at (l : FL) (ps : List Int) (i : Nat) (h : i < l.length) : (half l ps i)[i]'(by rw [length_half]; exact h) = l[i] := by
  unfold half
  have hl : (crashL (l.take i) ps).length = i := by rw [length_crashL, List.length_take]; omega
  rw [List.getElem_append_right (by omega)]
  simp [hl]
theorem put_at : ∀ {l : FL}, Sorted l → ∀ (i : Nat) (h : i < l.length) (f : F), put l l[i].1 f = l.set i (l[i].1, f)
  | p :: l, hs, 0, _, f => by simp [put]
  | p :: l, hs, i + 1, h, f => by
    have h' : i < l.length := by simpa using h
    have hm := hs.head l[i].1 (List.mem_map.2 ⟨l[i], List.getElem_mem h', rfl⟩)
    simp only [List.getElem_cons_succ]
    unfold put
    rw [if_neg hm.2, if_pos hm.1, put_at hs.tail i h' f]
    rfl
theorem half_succ {l : FL} (hs : Sorted l) (ps : List Int) (i : Nat) (h : i < l.length) : put (half l ps i) l[i].1 (tear l[i].2 (picksL (l.take i) ps)).1 = half l ps (i + 1) := by
  have hi : i < (half l ps i).length := by rw [length_half]; exact h
  have h1 := put_at (sorted_half hs ps i) i hi (tear l[i].2 (picksL (l.take i) ps)).1
  rw [half_at l ps i h] at h1
  rw [h1]
  unfold half
  have hl : (crashL (l.take i) ps).length = i := by rw [length_crashL, List.length_take]; omega
  rw [List.take_succ_eq_append_getElem h, crashL_append, List.set_append_right _ _ (by omega), hl, Nat.sub_self, List.drop_eq_getElem_cons h]
  simp only [List.set_cons_zero, List.append_assoc, List.cons_append, List.nil_append]
theorem picks_succ (l : FL) (ps : List Int) (i : Nat) (h : i < l.length) : picksL (l.take (i + 1)) ps = (tear l[i].2 (picksL (l.take i) ps)).2 := by
  rw [List.take_succ_eq_append_getElem h, picksL_append]
theorem half_look {l : FL} (hs : Sorted l) (ps : List Int) (i : Nat) (h : i < l.length) : getF (half l ps i) l[i].1 = l[i].2 := by
  have hi : i < (half l ps i).length := by rw [length_half]; exact h
  have h1 := Go.Proofs.YtmglkhnojimnlaaGreat.look_at (sorted_half hs ps i) i hi
  rw [half_at l ps i h] at h1
  unfold getF
  rw [h1]; rfl
theorem half_has {l : FL} (hs : Sorted l) (ps : List Int) (i : Nat) (h : i < l.length) : look (half l ps i) l[i].1 = some l[i].2 := by
  have hi : i < (half l ps i).length := by rw [length_half]; exact h
  have h1 := Go.Proofs.YtmglkhnojimnlaaGreat.look_at (sorted_half hs ps i) i hi
  rwa [half_at l ps i h] at h1

/-- how many bytes of a file stay beyond those that last -/
def more (f : F) (p : Int) : Nat := (fold p % ((f.1.size - f.2 + 1 : Nat) : Int)).toNat
theorem more_le (f : F) (p : Int) : more f p ≤ f.1.size - f.2 := by
  unfold more
  have h1 := Int.emod_lt_of_pos (fold p) (show (0 : Int) < ((f.1.size - f.2 + 1 : Nat) : Int) by omega)
  omega
theorem flip_size (b : ByteArray) : (flip b).size = b.size := by unfold flip; simp
theorem tear_eq (f : F) (ps : List Int) : tear f ps =
    if 0 < more f (pick ps).1 then
      (if (pick (pick ps).2).1 % 2 = 1 then ((flip (f.1.extract 0 (f.2 + more f (pick ps).1)), (f.1.extract 0 (f.2 + more f (pick ps).1)).size), (pick (pick ps).2).2)
        else ((f.1.extract 0 (f.2 + more f (pick ps).1), (f.1.extract 0 (f.2 + more f (pick ps).1)).size), (pick (pick ps).2).2))
    else ((f.1.extract 0 (f.2 + more f (pick ps).1), (f.1.extract 0 (f.2 + more f (pick ps).1)).size), (pick ps).2) := rfl
theorem tear_ok (f : F) (ps : List Int) (h : f.2 ≤ f.1.size) : (tear f ps).1.2 = (tear f ps).1.1.size ∧ (tear f ps).1.1.size = f.2 + more f (pick ps).1 := by
  have h1 := more_le f (pick ps).1
  have h2 : (f.1.extract 0 (f.2 + more f (pick ps).1)).size = f.2 + more f (pick ps).1 := by rw [ByteArray.size_extract]; omega
  rw [tear_eq]
  split
  · split
    · simp only [flip_size]; exact ⟨trivial, h2⟩
    · exact ⟨rfl, h2⟩
  · exact ⟨rfl, h2⟩
theorem used_crash : ∀ (l : FL) (ps : List Int), (∀ p ∈ l, p.2.2 ≤ p.2.1.size) → used (crashL l ps) ≤ used l
  | [], _, _ => Nat.le_refl _
  | p :: l, ps, h => by
    have h1 := (tear_ok p.2 ps (h p (by simp))).2
    have h2 := more_le p.2 (pick ps).1
    have h3 := h p (by simp)
    have h4 := used_crash l (tear p.2 ps).2 (fun q hq => h q (by simp [hq]))
    simp only [crashL, used]
    omega
theorem each_crash : ∀ (l : FL) (ps : List Int), (∀ p ∈ l, p.2.2 ≤ p.2.1.size ∧ p.1.length ≤ 40) → ∀ p ∈ crashL l ps, p.2.2 ≤ p.2.1.size ∧ p.1.length ≤ 40
  | [], _, _, p, hp => by simp [crashL] at hp
  | q :: l, ps, h, p, hp => by
    rcases List.mem_cons.1 hp with rfl | hp
    · have h0 := h q (by simp)
      have h1 := tear_ok q.2 ps h0.1
      exact ⟨by simp only [h1.1]; exact Nat.le_refl _, h0.2⟩
    · exact each_crash l _ (fun x hx => h x (by simp [hx])) p hp
end Go.Proofs.YtmglkhnojimnlaaGreat.DM
namespace Go.Proofs.YtmglkhnojimnlaaGreat
open DM (N F FL Sorted)
theorem Fit.half {l : FL} {n : Nat} (h : Fit l n) (ps : List Int) (i : Nat) : Fit (DM.half l ps i) n := by
  refine ⟨DM.sorted_half h.sorted ps i, by rw [DM.length_half]; exact h.len, ?_, fun p hp => ?_⟩
  · have h1 : DM.used (DM.half l ps i) ≤ DM.used l := by
      have h2 := DM.used_crash (l.take i) ps (fun p hp => (h.each p (List.mem_of_mem_take hp)).1)
      have h3 := used_append (l.take i) (l.drop i)
      rw [List.take_append_drop] at h3
      unfold DM.half
      rw [used_append]
      omega
    have := h.small
    omega
  · unfold DM.half at hp
    rcases List.mem_append.1 hp with hp | hp
    · exact DM.each_crash _ _ (fun q hq => h.each q (List.mem_of_mem_take hq)) p hp
    · exact h.each p (List.mem_of_mem_drop hp)
end Go.Proofs.YtmglkhnojimnlaaGreat

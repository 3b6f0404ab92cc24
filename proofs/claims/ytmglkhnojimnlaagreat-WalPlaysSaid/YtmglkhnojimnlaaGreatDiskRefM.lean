/- Where a name stands among rising ones: plain data. No program here. -/
import Derived.Test.YtmglkhnojimnlaaGreatDiskArmsM
namespace Go.Proofs.YtmglkhnojimnlaaGreat.DM

theorem lt_of_le_ne {a b : N} (h : a ≤ b) (hn : a ≠ b) : a < b := by
  by_cases h1 : a < b
  · exact h1
  · exact absurd (List.le_antisymm h h1) hn
theorem ne_of_lt {a b : N} (h : a < b) : a ≠ b := by
  rintro rfl
  exact List.lt_irrefl a h
theorem not_lt_of_le {a b : N} (h : a ≤ b) : ¬ b < a := h

/-- the first place that is not ahead of a name -/
def idx : FL → N → Nat
  | [], _ => 0
  | p :: l, k => if p.1 < k then idx l k + 1 else 0
theorem idx_le : ∀ (l : FL) (k : N), idx l k ≤ l.length
  | [], _ => Nat.le_refl _
  | p :: l, k => by
    unfold idx
    split
    · have := idx_le l k; simp; omega
    · simp
theorem idx_eq : ∀ (l : FL) (k : N) (i : Nat), i ≤ l.length → (∀ (j : Nat) (h : j < l.length), j < i → l[j].1 < k) → (∀ (h : i < l.length), ¬ l[i].1 < k) → idx l k = i
  | [], _, i, hi, _, _ => by simp at hi; subst hi; rfl
  | p :: l, k, 0, _, _, h => by
    have := h (by simp)
    simp only [List.getElem_cons_zero] at this
    unfold idx
    rw [if_neg this]
  | p :: l, k, i + 1, hi, hlt, h => by
    have h0 := hlt 0 (by simp) (by omega)
    unfold idx
    simp only [List.getElem_cons_zero] at h0
    rw [if_pos h0, idx_eq l k i (by simpa using hi) (fun j hj hji => by
      have := hlt (j + 1) (by simpa using hj) (by omega)
      simpa using this) (fun hi' => by
      have := h (by simpa using hi')
      simpa using this)]
theorem is_at {l : FL} (hs : Sorted l) (k : N) (i : Nat) (h : i < l.length) (hlt : ∀ (j : Nat) (h : j < l.length), j < i → l[j].1 < k) (hge : ¬ l[i].1 < k) : (look l k).isSome = decide (l[i].1 = k) := by
  by_cases e : l[i].1 = k
  · have := Go.Proofs.YtmglkhnojimnlaaGreat.look_at hs i h
    rw [e] at this
    rw [this]
    simp [e]
  · have hn : look l k = none := by
      refine look_none (fun hm => ?_)
      obtain ⟨p, hp, hpk⟩ := List.mem_map.1 hm
      obtain ⟨j, hj, rfl⟩ := List.mem_iff_getElem.1 hp
      rcases Nat.lt_trichotomy j i with h1 | h1 | h1
      · exact ne_of_lt (hlt j hj h1) hpk
      · subst h1; exact e hpk
      · have := List.pairwise_iff_getElem.1 hs i j (by simpa [names] using h) (by simpa [names] using hj) h1
        simp only [names, List.getElem_map] at this
        rw [hpk] at this
        exact hge (lt_of_le_ne this.1 this.2)
    rw [hn]
    simp [e]
theorem is_end {l : FL} (k : N) (hlt : ∀ (j : Nat) (h : j < l.length), l[j].1 < k) : (look l k).isSome = false := by
  have hn : look l k = none := by
    refine look_none (fun hm => ?_)
    obtain ⟨p, hp, hpk⟩ := List.mem_map.1 hm
    obtain ⟨j, hj, rfl⟩ := List.mem_iff_getElem.1 hp
    exact ne_of_lt (hlt j hj) hpk
  rw [hn]; rfl
theorem put_idx : ∀ {l : FL} (_ : Sorted l) (k : N) (f : F), put l k f = l.take (idx l k) ++ (k, f) :: l.drop (idx l k + if (look l k).isSome then 1 else 0)
  | [], _, k, f => by simp [put, idx, look]
  | p :: l, hs, k, f => by
    unfold put idx look
    by_cases e : p.1 = k
    · rw [if_pos e, if_pos e, if_neg (fun h => ne_of_lt h e)]
      simp
    · rw [if_neg e, if_neg e]
      by_cases hl : p.1 ≤ k
      · rw [if_pos hl, if_pos (lt_of_le_ne hl e), put_idx hs.tail k f]
        rw [show idx l k + 1 + (if (look l k).isSome = true then 1 else 0) = (idx l k + if (look l k).isSome = true then 1 else 0) + 1 by omega]
        simp
      · have hn : look l k = none := look_none (fun hm => hl (hs.head k hm).1)
        rw [if_neg hl, if_neg (fun h => hl (List.le_of_lt h)), hn]
        simp
theorem del_idx : ∀ {l : FL} (_ : Sorted l) (k : N), (look l k).isSome = true → del l k = l.take (idx l k) ++ l.drop (idx l k + 1)
  | [], _, k, h => by simp [look] at h
  | p :: l, hs, k, h => by
    unfold del idx
    unfold look at h
    by_cases e : p.1 = k
    · rw [if_pos e, if_neg (fun h => ne_of_lt h e)]
      simp
    · rw [if_neg e] at h
      have hm : k ∈ names l := look_names.1 (by cases hl : look l k <;> simp_all)
      have hh := hs.head k hm
      rw [if_neg e, if_pos (lt_of_le_ne hh.1 hh.2), del_idx hs.tail k h]
      simp
theorem del_none : ∀ {l : FL} (k : N), (look l k).isSome = false → del l k = l
  | [], _, _ => rfl
  | p :: l, k, h => by
    unfold look at h
    unfold del
    split at h
    · simp at h
    · rename_i e
      rw [if_neg e, del_none k h]
theorem at_idx : ∀ {l : FL} (_ : Sorted l) (k : N), (look l k).isSome = true → ∃ h : idx l k < l.length, l[idx l k] = (k, getF l k)
  | [], _, k, h => by simp [look] at h
  | p :: l, hs, k, h => by
    unfold look at h
    by_cases e : p.1 = k
    · have hi : idx (p :: l) k = 0 := by unfold idx; rw [if_neg (fun h => ne_of_lt h e)]
      refine ⟨by rw [hi]; simp, ?_⟩
      have : (p :: l)[idx (p :: l) k]'(by rw [hi]; simp) = p := by simp [hi]
      rw [this]
      unfold getF look
      rw [if_pos e]
      cases p
      simp at e
      simp [e]
    · rw [if_neg e] at h
      have hm : k ∈ names l := look_names.1 (by cases hl : look l k <;> simp_all)
      have hh := hs.head k hm
      obtain ⟨h1, h2⟩ := at_idx hs.tail k h
      have hi : idx (p :: l) k = idx l k + 1 := by conv => lhs; unfold idx; rw [if_pos (lt_of_le_ne hh.1 hh.2)]
      refine ⟨by rw [hi]; simpa using h1, ?_⟩
      have : (p :: l)[idx (p :: l) k]'(by rw [hi]; simpa using h1) = l[idx l k] := by simp [hi]
      rw [this, h2]
      unfold getF
      conv => rhs; unfold look; rw [if_neg e]
end Go.Proofs.YtmglkhnojimnlaaGreat.DM

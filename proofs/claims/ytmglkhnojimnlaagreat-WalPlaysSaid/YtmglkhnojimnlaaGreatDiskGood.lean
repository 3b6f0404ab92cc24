/- What every call keeps: names that may be, and few bytes. No program here. -/
import Derived.Test.YtmglkhnojimnlaaGreatDiskRefM
import Derived.Test.YtmglkhnojimnlaaGreatDiskTear
namespace Go.Proofs.YtmglkhnojimnlaaGreat.DM

structure Good (d : D) (u : Nat) : Prop where
  sorted : Sorted d.fl
  names : ∀ p ∈ d.fl, bad p.1 = false
  each : ∀ p ∈ d.fl, p.2.2 ≤ p.2.1.size
  us : used d.fl ≤ u
theorem Good.mono {d : D} {u v : Nat} (h : Good d u) (hu : u ≤ v) : Good d v := ⟨h.sorted, h.names, h.each, Nat.le_trans h.us hu⟩
theorem Good.same {d d' : D} {u : Nat} (h : Good d u) (he : d'.fl = d.fl) : Good d' u := ⟨he ▸ h.sorted, he ▸ h.names, he ▸ h.each, he ▸ h.us⟩
theorem Good.new (r : Int) : Good (new r) 0 := ⟨Sorted.nil, by simp [DM.new], by simp [DM.new], Nat.le_refl _⟩
theorem step_fl (d : D) : (step d).2.fl = d.fl := by
  unfold step
  split <;> rfl
theorem Good.thn {d : D} {u v : Nat} (h : Good d u) (huv : u ≤ v) (e : Int) (f : FL → FL) (hf : e = 0 → Good { d with fl := f d.fl } v) : Good (thn d e f).2 v := by
  unfold DM.thn
  split
  · rename_i he
    split
    · exact (hf he).same (by simp only [step_fl])
    · exact (h.mono huv).same (step_fl d)
  · exact h.mono huv
theorem bad_of_may1 {d : D} {t : Bool} {k : N} (h : may1 d t k = 0) : bad k = false := by
  unfold may1 at h
  split at h
  · cases h
  · split at h
    · cases h
    · rename_i hb; simpa using hb
theorem is_of_may1 {d : D} {k : N} (h : may1 d true k = 0) : (look d.fl k).isSome = true := by
  unfold may1 at h
  split at h
  · cases h
  · split at h
    · cases h
    · split at h
      · cases h
      · rename_i hn
        cases hl : look d.fl k with
        | none => rw [hl] at hn; simp at hn
        | some f => rfl
theorem getF_le {d : D} {u : Nat} (h : Good d u) (k : N) : (getF d.fl k).2 ≤ (getF d.fl k).1.size := by
  unfold getF
  cases hl : look d.fl k with
  | none => simp
  | some f => exact h.each _ (look_mem hl)
theorem Good.put {d : D} {u v : Nat} (h : Good d u) (k : N) (f : F) (hk : bad k = false) (hf : f.2 ≤ f.1.size) (hu : used (put d.fl k f) ≤ v) : Good { d with fl := DM.put d.fl k f } v :=
  ⟨sorted_put _ _ _ h.sorted, fun p hp => by
    rcases mem_put _ _ _ _ hp with rfl | hp
    · exact hk
    · exact h.names p hp, fun p hp => by
    rcases mem_put _ _ _ _ hp with rfl | hp
    · exact hf
    · exact h.each p hp, hu⟩
theorem Good.del {d : D} {u : Nat} (h : Good d u) (k : N) : Good { d with fl := DM.del d.fl k } u :=
  ⟨sorted_del _ _ h.sorted, fun p hp => h.names p (mem_del _ _ _ hp), fun p hp => h.each p (mem_del _ _ _ hp), by have := used_del d.fl k h.sorted; have := h.us; simp only; omega⟩
theorem Good.append {d : D} {u : Nat} (h : Good d u) (k : N) (s : ByteArray) : Good (append d k s).2 (u + s.size) := by
  unfold DM.append
  simp only
  split
  · exact h.mono (by omega)
  · refine h.thn (by omega) _ _ (fun he => ?_)
    refine h.put k _ (bad_of_may1 he) ?_ ?_
    · have := getF_le h k
      simp only [ByteArray.size_append]
      omega
    · rw [used_app _ _ _ _ h.sorted]
      have := h.us
      omega
theorem Good.sync {d : D} {u : Nat} (h : Good d u) (k : N) : Good (sync d k).2 u := by
  unfold DM.sync
  refine h.thn (Nat.le_refl _) _ _ (fun he => ?_)
  refine h.put k _ (bad_of_may1 he) (Nat.le_refl _) ?_
  have h1 := used_put d.fl k ((getF d.fl k).1, (getF d.fl k).1.size) h.sorted
  have h2 := getF_size d.fl k
  have := h.us
  simp only at h1
  omega
theorem Good.remove {d : D} {u : Nat} (h : Good d u) (k : N) : Good (remove d k).2 u := by
  unfold DM.remove
  exact h.thn (Nat.le_refl _) _ _ (fun _ => h.del k)
theorem Good.rename {d : D} {u : Nat} (h : Good d u) (k m : N) : Good (rename d k m).2 u := by
  unfold DM.rename
  refine h.thn (Nat.le_refl _) _ _ (fun he => ?_)
  have hm : bad m = false := by
    unfold may2 at he
    split at he
    · cases he
    · split at he
      · cases he
      · rename_i hb
        simp at hb
        exact hb.2
  refine (h.del k).put m _ hm (getF_le h k) ?_
  have h1 := used_put (DM.del d.fl k) m (getF d.fl k) (sorted_del _ _ h.sorted)
  have h2 := getF_size d.fl k
  have h3 := used_del d.fl k h.sorted
  have := h.us
  simp only
  omega
theorem Good.cut {d : D} {u : Nat} (h : Good d u) (k : N) (c : Int) : Good (cut d k c).2 u := by
  unfold DM.cut
  simp only
  split
  · exact h
  · rename_i hc
    refine h.thn (Nat.le_refl _) _ _ (fun he => ?_)
    have hs : ((getF d.fl k).1.extract 0 c.toNat).size = min c.toNat (getF d.fl k).1.size := by rw [ByteArray.size_extract]; omega
    have hc2 : 0 ≤ c ∧ c ≤ ((getF d.fl k).1.size : Int) := by
      have : ¬ (c < 0 ∨ ((getF d.fl k).1.size : Int) < c) := fun h => hc ⟨he, h⟩
      omega
    refine h.put k _ (bad_of_may1 he) ?_ ?_
    · have := getF_le h k
      simp only [hs]
      omega
    · have h1 := used_put d.fl k ((getF d.fl k).1.extract 0 c.toNat, min (getF d.fl k).2 c.toNat) h.sorted
      have h2 := getF_size d.fl k
      have := h.us
      simp only [hs] at h1
      omega
theorem mem_crash : ∀ (l : FL) (ps : List Int) (p : N × F), p ∈ crashL l ps → ∃ q ∈ l, q.1 = p.1
  | [], _, p, h => by simp [crashL] at h
  | q :: l, ps, p, h => by
    rcases List.mem_cons.1 h with rfl | h
    · exact ⟨q, by simp, rfl⟩
    · obtain ⟨q', h1, h2⟩ := mem_crash l _ p h
      exact ⟨q', by simp [h1], h2⟩
theorem each_crash' : ∀ (l : FL) (ps : List Int), (∀ p ∈ l, p.2.2 ≤ p.2.1.size) → ∀ p ∈ crashL l ps, p.2.2 ≤ p.2.1.size
  | [], _, _, p, hp => by simp [crashL] at hp
  | q :: l, ps, h, p, hp => by
    rcases List.mem_cons.1 hp with rfl | hp
    · have h1 := tear_ok q.2 ps (h q (by simp))
      simp only [h1.1]
      exact Nat.le_refl _
    · exact each_crash' l _ (fun x hx => h x (by simp [hx])) p hp
theorem Good.crash {d : D} {u : Nat} (h : Good d u) (ps : List Int) : Good (crash d ps) u :=
  ⟨by unfold Sorted; simp only [DM.crash, names_crash]; exact h.sorted, fun p hp => by
    obtain ⟨q, h1, h2⟩ := mem_crash _ _ _ hp
    rw [← h2]; exact h.names q h1, each_crash' _ _ h.each, Nat.le_trans (used_crash d.fl ps h.each) h.us⟩
/-- what is read of each file behind a crash -/
theorem Good.read {d : D} {u : Nat} (h : Good d u) (ho : d.off = false) (i : Nat) (hi : i < d.fl.length) : DM.read d d.fl[i].1 = (d.fl[i].2.1, 0) := by
  have hl := Go.Proofs.YtmglkhnojimnlaaGreat.look_at h.sorted i hi
  have hm : may1 d true d.fl[i].1 = 0 := by
    unfold may1
    rw [if_neg (by simp [ho]), if_neg (by simp [h.names _ (List.getElem_mem hi)]), hl]
    simp
  unfold DM.read getF
  rw [if_pos hm, hl]
  rfl
end Go.Proofs.YtmglkhnojimnlaaGreat.DM

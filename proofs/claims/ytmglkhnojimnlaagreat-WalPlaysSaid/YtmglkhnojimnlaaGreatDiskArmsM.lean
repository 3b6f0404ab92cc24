/- law09: DiskArms. -/
import Derived.Test.YtmglkhnojimnlaaGreatDiskOwn
namespace Go.Proofs.YtmglkhnojimnlaaGreat.DM

theorem getF_size (l : FL) (k : N) : (getF l k).1.size = sz (look l k) := by
  unfold getF
  cases look l k with
  | none => rfl
  | some f => rfl
theorem used_app (l : FL) (k : N) (s : ByteArray) (c : Nat) (h : Sorted l) : used (put l k ((getF l k).1 ++ s, c)) = used l + s.size := by
  have h1 := used_put l k ((getF l k).1 ++ s, c) h
  have h2 := getF_size l k
  simp only [ByteArray.size_append] at h1
  omega
theorem may1_in (d : D) (k : N) (ho : d.off = false) (hk : bad k = false) : may1 d false k = 0 := by
  unfold may1
  rw [if_neg (by simp [ho]), if_neg (by simp [hk])]
  simp
theorem may1_out (d : D) (t : Bool) (k : N) (ho : d.off = true) : may1 d t k = 14 := by
  unfold may1
  rw [if_pos ho]
theorem append_off (d : D) (k : N) (s : ByteArray) (ho : d.off = true) : append d k s = (14, d) := by
  unfold append thn
  simp only [may1_out d false k ho]
  simp
theorem append_full (d : D) (k : N) (s : ByteArray) (ho : d.off = false) (hk : bad k = false) (hr : d.room - used d.fl < s.size) : append d k s = (15, d) := by
  unfold append
  simp only [may1_in d k ho hk]
  rw [if_pos ⟨trivial, hr⟩]
theorem append_power (d : D) (k : N) (s : ByteArray) (ho : d.off = false) (hk : bad k = false) (hr : s.size ≤ d.room - used d.fl) (hl : d.left = 1) : append d k s = (14, { d with off := true }) := by
  unfold append thn
  simp only [may1_in d k ho hk]
  have hs : step d = (14, { d with off := true }) := by unfold step; rw [if_pos hl]
  rw [if_neg (by omega), if_pos trivial, hs]
  rfl
theorem append_done (d : D) (k : N) (s : ByteArray) (ho : d.off = false) (hk : bad k = false) (hr : s.size ≤ d.room - used d.fl) (hl : d.left ≠ 1) :
    append d k s = (0, ⟨d.room, put d.fl k ((getF d.fl k).1 ++ s, (getF d.fl k).2), d.off, max (d.left - 1) 0, d.done + 1⟩) := by
  unfold append thn
  simp only [may1_in d k ho hk]
  have hs : step d = (0, { d with left := max (d.left - 1) 0, done := d.done + 1 }) := by unfold step; rw [if_neg hl]
  rw [if_neg (by omega), if_pos trivial, hs]
  rfl

structure Arms (k i : Nat) (d : D) : Prop where
  sorted : Sorted d.fl
  room : d.room = 1000
  us : used d.fl = min i k
  done : d.done = (min i k : Nat)
  off : d.off = decide (k < i)
  left : d.left = (k + 1 - min i k : Nat)
theorem Arms.start (k : Nat) (hk : k ≤ 30) : Arms k 0 (arm (new 1000) k) :=
  ⟨Sorted.nil, rfl, by simp [arm, new, DM.used], by simp [arm, new], by simp [arm, new], by simp only [arm, new]; omega⟩
theorem Arms.next {k i : Nat} {d : D} (h : Arms k i d) (hk : k ≤ 30) :
    (append d [102] ⟨#[120]⟩).1 = (if i < k then 0 else 14) ∧ Arms k (i + 1) (append d [102] ⟨#[120]⟩).2 := by
  have hb : bad [102] = false := rfl
  have hx : (⟨#[120]⟩ : ByteArray).size = 1 := rfl
  have h1 := h.room
  have h2 := h.us
  have h3 := h.left
  by_cases hi : k < i
  · rw [append_off d _ _ (by rw [h.off]; simpa using hi), if_neg (by omega)]
    refine ⟨rfl, h.sorted, h1, by rw [h2]; omega, by rw [h.done]; congr 1; omega, by rw [h.off]; simp; omega, by rw [h3]; congr 1; omega⟩
  have ho : d.off = false := by rw [h.off]; simpa using Nat.not_lt.1 hi
  by_cases he : i = k
  · rw [append_power d _ _ ho hb (by rw [hx]; omega) (by omega), if_neg (by omega)]
    refine ⟨rfl, h.sorted, h1, by simp only [h2]; omega, by simp only [h.done]; congr 1; omega, by simp; omega, by simp only [h3]; congr 1; omega⟩
  · rw [append_done d _ _ ho hb (by rw [hx]; omega) (by omega), if_pos (by omega)]
    refine ⟨rfl, sorted_put _ _ _ h.sorted, h1, by simp only [used_app _ _ _ _ h.sorted, h2, hx]; omega, by simp only [h.done]; omega, by rw [ho]; simp; omega, by simp only [h3]; omega⟩
theorem read_off (d : D) (k : N) (ho : d.off = true) : read d k = (⟨#[]⟩, 14) := by
  unfold read
  rw [may1_out d true k ho, if_neg (by decide)]
theorem sync_off (d : D) (k : N) (ho : d.off = true) : sync d k = (14, d) := by
  unfold sync thn
  rw [may1_out d true k ho, if_neg (by decide)]
theorem Arms.last {k : Nat} {d : D} (h : Arms k 40 d) (hk : k ≤ 30) (ps : List Int) (he : ∀ p ∈ d.fl, p.2.2 ≤ p.2.1.size) :
    (crash d ps).off = false ∧ used (crash d ps).fl ≤ k ∧ (append (crash d ps) [103] ⟨#[121]⟩).1 = 0 := by
  have h1 : used (crashL d.fl ps) ≤ used d.fl := used_crash d.fl ps he
  have h2 := h.us
  refine ⟨rfl, by simp only [crash]; omega, ?_⟩
  rw [append_done (crash d ps) [103] ⟨#[121]⟩ rfl rfl _ (show (0 : Int) ≠ 1 by decide)]
  have hx : (⟨#[121]⟩ : ByteArray).size = 1 := rfl
  have h3 : (crash d ps).room = 1000 := h.room
  have h4 : (crash d ps).fl = crashL d.fl ps := rfl
  rw [hx, h3, h4]
  omega
end Go.Proofs.YtmglkhnojimnlaaGreat.DM

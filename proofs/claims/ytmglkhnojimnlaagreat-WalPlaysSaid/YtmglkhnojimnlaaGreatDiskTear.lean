/- What a tear leaves, as plain data. -/
import Derived.Test.YtmglkhnojimnlaaGreatDiskArmsM
namespace Go.Proofs.YtmglkhnojimnlaaGreat.DM

theorem flip_extract (b : ByteArray) (m : Nat) (h : m + 1 ≤ b.size) : (flip b).extract 0 m = b.extract 0 m := by
  apply ByteArray.ext
  rw [ByteArray.data_extract, ByteArray.data_extract]
  have hd : (flip b).data = b.data.setIfInBounds (b.size - 1) (255 - b.get! (b.size - 1)) := rfl
  have hs : b.data.size = b.size := rfl
  rw [hd]
  apply Array.ext
  · simp
  · intro i h1 h2
    simp only [Array.size_extract] at h1 h2
    simp only [Array.getElem_extract]
    rw [Array.getElem_setIfInBounds_ne]
    omega
theorem extract_extract (b : ByteArray) (m k : Nat) (h : m ≤ k) : (b.extract 0 k).extract 0 m = b.extract 0 m := by
  apply ByteArray.ext
  simp only [ByteArray.data_extract]
  apply Array.ext
  · simp; omega
  · intro i h1 h2
    simp
theorem extract_all (b : ByteArray) : b.extract 0 b.size = b := by
  apply ByteArray.ext
  simp only [ByteArray.data_extract]
  have hs : b.data.size = b.size := rfl
  rw [← hs]
  simp
theorem tear_keeps (f : F) (ps : List Int) (m : Nat) (h : f.2 ≤ f.1.size) (hm : m ≤ f.2 ∨ m + 1 ≤ (tear f ps).1.1.size) : (tear f ps).1.1.extract 0 m = f.1.extract 0 m := by
  have h1 := tear_ok f ps h
  have h2 := more_le f (pick ps).1
  have h3 : (f.1.extract 0 (f.2 + more f (pick ps).1)).size = f.2 + more f (pick ps).1 := by rw [ByteArray.size_extract]; omega
  rw [h1.2] at hm
  rw [tear_eq]
  split
  · split
    · simp only
      rw [flip_extract _ _ (by rw [h3]; omega), extract_extract _ _ _ (by omega)]
    · simp only
      rw [extract_extract _ _ _ (by omega)]
  · simp only
    rw [extract_extract _ _ _ (by omega)]
theorem more_zero (f : F) (p : Int) (h : f.2 = f.1.size) : more f p = 0 := by
  have := more_le f p
  omega
theorem tear_firm (f : F) (ps : List Int) (h : f.2 = f.1.size) : (tear f ps).1 = f ∧ (tear f ps).2 = (pick ps).2 := by
  rw [tear_eq, more_zero f _ h, if_neg (by omega)]
  refine ⟨?_, rfl⟩
  obtain ⟨b, n⟩ := f
  simp only at h
  subst h
  simp only [Nat.add_zero, extract_all]
theorem append_nil_left (s : ByteArray) : (⟨#[]⟩ : ByteArray) ++ s = s := by
  apply ByteArray.ext
  simp [ByteArray.data_append]
theorem extract_append (a s : ByteArray) : (a ++ s).extract 0 a.size = a := by
  apply ByteArray.ext
  rw [ByteArray.data_extract, ByteArray.data_append]
  have hs : a.data.size = a.size := rfl
  rw [← hs]
  simp
theorem extract_pre (a s : ByteArray) (m : Nat) (h : m ≤ a.size) : (a ++ s).extract 0 m = a.extract 0 m := by
  apply ByteArray.ext
  rw [ByteArray.data_extract, ByteArray.data_append, ByteArray.data_extract]
  have hs : a.data.size = a.size := rfl
  apply Array.ext
  · simp; omega
  · intro i h1 h2
    simp only [Array.getElem_extract]
    rw [Array.getElem_append_left]

/-- what DiskLasts sees -/
abbrev one (a : ByteArray) (l : Nat) (done : Int) : D := ⟨100000, [([102], (a, l))], false, 0, done⟩
theorem one_new (s : ByteArray) (hs : s.size ≤ 100000) : append (new 100000) [102] s = (0, one s 0 1) := by
  rw [append_done _ _ _ rfl rfl (by simp only [new, used]; omega) (show (0 : Int) ≠ 1 by decide)]
  have e : put (new 100000).fl [102] ((getF (new 100000).fl [102]).1 ++ s, (getF (new 100000).fl [102]).2) = [([102], (s, 0))] := by
    show [([102], ((⟨#[]⟩ : ByteArray) ++ s, 0))] = _
    rw [append_nil_left]
  rw [e]
  rfl
theorem one_sync (a : ByteArray) (l : Nat) (done : Int) : sync (one a l done) [102] = (0, one a a.size (done + 1)) := rfl
theorem one_more (a s : ByteArray) (l : Nat) (done : Int) (h : a.size + s.size ≤ 100000) : append (one a l done) [102] s = (0, one (a ++ s) l (done + 1)) := by
  rw [append_done _ _ _ rfl rfl (by simp only [one, used]; omega) (show (0 : Int) ≠ 1 by decide)]
  rfl
theorem one_read (a : ByteArray) (l : Nat) (done : Int) : read (one a l done) [102] = (a, 0) := rfl
theorem one_crash (a : ByteArray) (l : Nat) (done : Int) (ps : List Int) (h : l ≤ a.size) : crash (one a l done) ps = one (tear (a, l) ps).1.1 (tear (a, l) ps).1.1.size done := by
  have h1 := (tear_ok (a, l) ps h).1
  unfold crash
  simp only [one, crashL]
  rw [← h1]
theorem one_again (a : ByteArray) (done : Int) (ps : List Int) : crash (one a a.size done) ps = one a a.size done := by
  rw [one_crash _ _ _ _ (Nat.le_refl _), (tear_firm (a, a.size) ps rfl).1]
end Go.Proofs.YtmglkhnojimnlaaGreat.DM

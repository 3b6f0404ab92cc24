/- What is read of a log that is cut or torn, as plain data. No program here. -/
import Derived.Test.YtmglkhnojimnlaaGreatWalM
namespace Go.Proofs.YtmglkhnojimnlaaGreat.WM

def Fits (l : List Bs) : Prop := ∀ s ∈ l, s.length ≤ 60000
theorem Fits.tail {s : Bs} {l : List Bs} (h : Fits (s :: l)) : Fits l := fun x hx => h x (by simp [hx])
theorem Fits.head {s : Bs} {l : List Bs} (h : Fits (s :: l)) : s.length ≤ 60000 := h s (by simp)
/-- how many records lie whole within so many bytes -/
def within : List Bs → Nat → Nat
  | [], _ => 0
  | s :: l, n => if 8 + s.length ≤ n then within l (n - (8 + s.length)) + 1 else 0
theorem within_le : ∀ (l : List Bs) (n : Nat), within l n ≤ l.length
  | [], _ => Nat.le_refl _
  | s :: l, n => by
    unfold within
    split
    · have := within_le l (n - (8 + s.length)); simp; omega
    · simp
theorem within_len : ∀ (l : List Bs) (n : Nat), (all (l.take (within l n))).length ≤ n
  | [], _ => by simp [within, all]
  | s :: l, n => by
    unfold within
    split
    · have := within_len l (n - (8 + s.length))
      rw [List.take_succ_cons, all_cons, List.length_append, rec_length]
      omega
    · simp [all]
/-- as many as lie within are within -/
theorem le_within : ∀ (l : List Bs) (n g : Nat), g ≤ l.length → (all (l.take g)).length ≤ n → g ≤ within l n
  | [], _, g, h, _ => by simp at h; omega
  | s :: l, n, 0, _, _ => Nat.zero_le _
  | s :: l, n, g + 1, h, hn => by
    rw [List.take_succ_cons, all_cons, List.length_append, rec_length] at hn
    unfold within
    rw [if_pos (by omega)]
    have := le_within l (n - (8 + s.length)) g (by simpa using h) (by omega)
    omega
theorem take_all_cons (s : Bs) (l : List Bs) (n : Nat) (h : 8 + s.length ≤ n) : (all (s :: l)).take n = rec_ s ++ (all l).take (n - (8 + s.length)) := by
  rw [all_cons, List.take_append, List.take_of_length_le (by rw [rec_length]; omega), rec_length]
theorem take_all_part (s : Bs) (l : List Bs) (n : Nat) (h : n ≤ 8 + s.length) : (all (s :: l)).take n = (rec_ s).take n := by
  rw [all_cons, List.take_append_of_le_length (by rw [rec_length]; omega)]
/-- a log that is cut off has just the records that are whole -/
theorem recs_cut : ∀ (l : List Bs) (n : Nat), Fits l → recs ((all l).take n) = (l.take (within l n), (all (l.take (within l n))).length)
  | [], n, _ => by simp [all, within, recs, recsF]
  | s :: l, n, h => by
    unfold within
    split
    · rename_i hn
      rw [take_all_cons s l n hn, recs_rec s _ h.head, recs_cut l _ h.tail]
      simp only [List.take_succ_cons, all_cons, List.length_append, rec_length]
    · rename_i hn
      rw [take_all_part s l n (by omega), recs_part s h.head n (by omega)]
      simp [all]
/-- cut off, and the last byte of what stays is turned -/
theorem recs_torn : ∀ (l : List Bs) (n : Nat) (x : UInt8) (hn : n < (all l).length), Fits l → x ≠ (all l)[n] → recs (((all l).take (n + 1)).set n x) = (l.take (within l n), (all (l.take (within l n))).length)
  | [], n, _, hn, _, _ => by simp [all] at hn
  | s :: l, n, x, hn, h, hx => by
    unfold within
    split
    · rename_i h8
      have hn' : n - (8 + s.length) < (all l).length := by rw [all_cons, List.length_append, rec_length] at hn; omega
      have hat : (all (s :: l))[n] = (all l)[n - (8 + s.length)] := by
        have h1 : (all (s :: l))[n]? = (all l)[n - (8 + s.length)]? := by
          rw [all_cons, List.getElem?_append_right (by rw [rec_length]; exact h8), rec_length]
        rw [List.getElem?_eq_getElem hn, List.getElem?_eq_getElem hn'] at h1
        exact Option.some.inj h1
      rw [take_all_cons s l (n + 1) (by omega), List.set_append_right _ _ (by rw [rec_length]; exact h8), rec_length, recs_rec s _ h.head]
      rw [show n + 1 - (8 + s.length) = (n - (8 + s.length)) + 1 by omega]
      rw [recs_torn l (n - (8 + s.length)) x hn' h.tail (by rw [← hat]; exact hx)]
      simp only [List.take_succ_cons, all_cons, List.length_append, rec_length]
    · rename_i h8
      have h8' : n < 8 + s.length := by omega
      have hat : (all (s :: l))[n] = (rec_ s)[n]'(by rw [rec_length]; exact h8') := by
        have h1 : (all (s :: l))[n]? = (rec_ s)[n]? := by
          rw [all_cons, List.getElem?_append_left (by rw [rec_length]; exact h8')]
        rw [List.getElem?_eq_getElem hn, List.getElem?_eq_getElem (by rw [rec_length]; exact h8')] at h1
        exact Option.some.inj h1
      rw [take_all_part s l (n + 1) (by omega)]
      have goal : recs (((rec_ s).take (n + 1)).set n x) = ([], 0) := by
        by_cases hs : n + 1 < 8
        · exact recs_short (by rw [List.length_set, List.length_take]; omega)
        by_cases hfull : n + 1 = 8 + s.length
        · obtain ⟨j, rfl⟩ : ∃ j, n = j + 4 := ⟨n - 4, by omega⟩
          rw [List.take_of_length_le (by rw [rec_length]; omega)]
          have := head_turned s [] h.head j (by omega) x (by rw [← hat]; exact hx)
          rw [List.append_nil] at this
          exact recs_none this
        · refine recs_none ?_
          unfold head?
          have hl : (((rec_ s).take (n + 1)).set n x).length = n + 1 := by rw [List.length_set, List.length_take, rec_length]; omega
          have hnum : num4 (((rec_ s).take (n + 1)).set n x) = s.length := by
            have h4 : ((rec_ s).take (n + 1)).set n x = be4 s.length ++ (((be4 (crc (be4 s.length ++ s)) ++ s).take (n + 1 - 4)).set (n - 4) x) := by
              unfold rec_
              rw [List.take_append, be4_length, List.take_of_length_le (by rw [be4_length]; omega), List.set_append_right _ _ (by rw [be4_length]; omega), be4_length]
            rw [h4]
            exact num4_be4 (by have := h.head; omega) _
          rw [hl, hnum, if_neg hs, if_pos (.inl (by omega))]
      rw [goal]
      simp [all]
end Go.Proofs.YtmglkhnojimnlaaGreat.WM

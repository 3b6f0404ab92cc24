/- A log one of whose bytes is turned; where a place lies among the records' ends. No program here. -/
import Derived.Test.YtmglkhnojimnlaaGreatWalT
namespace Go.Proofs.YtmglkhnojimnlaaGreat.WM

theorem all_take_mono (l : List Bs) {i j : Nat} (h : i ≤ j) : (all (l.take i)).length ≤ (all (l.take j)).length := by
  have e : l.take j = l.take i ++ (l.drop i).take (j - i) := by
    rw [← List.take_add]
    congr 1
    omega
  rw [e, all_append, List.length_append]
  omega
theorem within_eq (l : List Bs) (n g : Nat) (hg : g ≤ l.length) (h1 : (all (l.take g)).length ≤ n) (h2 : g = l.length ∨ n < (all (l.take (g + 1))).length) : within l n = g := by
  have ha := le_within l n g hg h1
  have hb := within_len l n
  have hc := within_le l n
  rcases h2 with h2 | h2
  · omega
  · rcases Nat.lt_or_ge g (within l n) with h3 | h3
    · have := all_take_mono l (show g + 1 ≤ within l n by omega)
      omega
    · omega
theorem all_take_succ (l : List Bs) (i : Nat) (h : i < l.length) : (all (l.take (i + 1))).length = (all (l.take i)).length + (8 + l[i].length) := by
  rw [List.take_succ_eq_append_getElem h, all_append, List.length_append]
  simp [all, rec_length]
/-- of a record one of whose bytes behind its length is turned nothing is read, and nothing behind it -/
theorem recs_turned : ∀ (l : List Bs) (k : Nat) (x : UInt8) (hk : k < (all l).length), Fits l → x ≠ (all l)[k] → (all (l.take (within l k))).length + 4 ≤ k →
    recs ((all l).set k x) = (l.take (within l k), (all (l.take (within l k))).length)
  | [], k, _, hk, _, _, _ => by simp [all] at hk
  | s :: l, k, x, hk, h, hx, h4 => by
    have hcons := all_cons s l
    by_cases h8 : 8 + s.length ≤ k
    · have hw : within (s :: l) k = within l (k - (8 + s.length)) + 1 := by conv => lhs; unfold within; rw [if_pos h8]
      have hk' : k - (8 + s.length) < (all l).length := by rw [hcons, List.length_append, rec_length] at hk; omega
      have hat : (all (s :: l))[k] = (all l)[k - (8 + s.length)] := by
        have h1 : (all (s :: l))[k]? = (all l)[k - (8 + s.length)]? := by
          rw [hcons, List.getElem?_append_right (by rw [rec_length]; exact h8), rec_length]
        rw [List.getElem?_eq_getElem hk, List.getElem?_eq_getElem hk'] at h1
        exact Option.some.inj h1
      rw [hw] at h4 ⊢
      rw [List.take_succ_cons, all_cons s (l.take _), List.length_append, rec_length] at h4 ⊢
      rw [hcons, List.set_append_right _ _ (by rw [rec_length]; exact h8), rec_length, recs_rec s _ h.head, recs_turned l (k - (8 + s.length)) x hk' h.tail (by rw [← hat]; exact hx) (by omega)]
    · have hw : within (s :: l) k = 0 := by conv => lhs; unfold within; rw [if_neg h8]
      rw [hw] at h4 ⊢
      simp [all] at h4
      obtain ⟨j, rfl⟩ : ∃ j, k = j + 4 := ⟨k - 4, by omega⟩
      have hat : (all (s :: l))[j + 4] = (rec_ s)[j + 4]'(by rw [rec_length]; omega) := by
        have h1 : (all (s :: l))[j + 4]? = (rec_ s)[j + 4]? := by
          rw [hcons, List.getElem?_append_left (by rw [rec_length]; omega)]
        rw [List.getElem?_eq_getElem hk, List.getElem?_eq_getElem (by rw [rec_length]; omega)] at h1
        exact Option.some.inj h1
      rw [hcons, List.set_append_left _ _ (by rw [rec_length]; omega), recs_none (head_turned s (all l) h.head j (by omega) x (by rw [← hat]; exact hx))]
      simp [all]
end Go.Proofs.YtmglkhnojimnlaaGreat.WM

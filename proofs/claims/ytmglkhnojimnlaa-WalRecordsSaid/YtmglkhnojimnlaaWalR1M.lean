/- The sums of the document, as plain data: eight steps behind a byte are the table's step. No program here. -/
import Derived.Test.YtmglkhnojimnlaaCrc
namespace Go.Proofs.Ytmglkhnojimnlaa.WM

theorem st_xor (a b : Nat) : st (a ^^^ b) = st a ^^^ st b := by
  unfold st
  rw [Nat.shiftRight_xor_distrib]
  have h2 := Nat.xor_mod_two_eq_one (a := a) (b := b)
  by_cases ha : a % 2 = 1
  · by_cases hb : b % 2 = 1
    · rw [if_pos ha, if_pos hb, if_neg (by rw [h2]; simp [ha, hb])]
      rw [Nat.xor_zero, Nat.xor_assoc]
      congr 1
      rw [Nat.xor_comm 3988292384, Nat.xor_assoc, Nat.xor_self, Nat.xor_zero]
    · rw [if_pos ha, if_neg hb, if_pos (by rw [h2]; simp [ha, hb])]
      rw [Nat.xor_zero, Nat.xor_assoc, Nat.xor_assoc, Nat.xor_comm (b >>> 1)]
  · by_cases hb : b % 2 = 1
    · rw [if_neg ha, if_pos hb, if_pos (by rw [h2]; simp [ha, hb])]
      rw [Nat.xor_zero, Nat.xor_assoc]
    · rw [if_neg ha, if_neg hb, if_neg (by rw [h2]; simp [ha, hb])]
      simp
theorem tab_xor (a b : Nat) : tab (a ^^^ b) = tab a ^^^ tab b := by
  unfold tab
  simp only [st_xor]
theorem st_even (n : Nat) : st (n * 2) = n := by
  unfold st
  rw [if_neg (by omega), Nat.xor_zero, Nat.shiftRight_eq_div_pow]
  omega
theorem tab_high (y : Nat) : tab (y * 256) = y := by
  unfold tab
  rw [show y * 256 = (y * 128) * 2 by omega, st_even, show y * 128 = (y * 64) * 2 by omega, st_even, show y * 64 = (y * 32) * 2 by omega, st_even, show y * 32 = (y * 16) * 2 by omega, st_even,
    show y * 16 = (y * 8) * 2 by omega, st_even, show y * 8 = (y * 4) * 2 by omega, st_even, show y * 4 = (y * 2) * 2 by omega, st_even, st_even]
theorem parts (c : Nat) : c = (c % 256) ^^^ ((c >>> 8) * 256) := by
  apply Nat.eq_of_testBit_eq
  intro i
  rw [Nat.testBit_xor, show (256 : Nat) = 2 ^ 8 from rfl, ← Nat.shiftLeft_eq, Nat.testBit_mod_two_pow, Nat.testBit_shiftLeft, Nat.testBit_shiftRight]
  by_cases h : i < 8
  · simp [h, Nat.not_le.2 h]
  · have h8 : 8 ≤ i := by omega
    simp [h, h8, show 8 + (i - 8) = i by omega]
/-- eight steps behind a byte -/
theorem upd_eq (c : Nat) (b : UInt8) : tab (c ^^^ b.toNat) = upd c b := by
  have h : c ^^^ b.toNat = ((c % 256) ^^^ b.toNat) ^^^ ((c >>> 8) * 256) := by
    conv => lhs; rw [parts c]
    rw [Nat.xor_assoc, Nat.xor_comm ((c >>> 8) * 256), ← Nat.xor_assoc]
  rw [h, tab_xor, tab_high]
  rfl
theorem take4_be4 : ∀ (l : Bs), 4 ≤ l.length → l.take 4 = be4 (num4 l)
  | a :: b :: c :: d :: t, _ => by
    rw [be4_num4]
    simp only [List.take_succ_cons, List.take_zero]
/-- a record ahead is what a record of its text is -/
theorem head_iff (l : Bs) (h8 : 8 ≤ l.length) (h1 : num4 l ≤ l.length - 8) (h2 : num4 l ≤ 60000) :
    head? l = if rec_ ((l.drop 8).take (num4 l)) = l.take (8 + num4 l) then some ((l.drop 8).take (num4 l)) else none := by
  have h4 := take4_be4 l (by omega)
  obtain ⟨n, hn⟩ : ∃ n, n = num4 l := ⟨_, rfl⟩
  rw [← hn] at h1 h2 h4 ⊢
  have hl : ((l.drop 8).take n).length = n := by
    rw [List.length_take, List.length_drop]; omega
  have hs : l.take (8 + n) = be4 n ++ ((l.drop 4).take 4 ++ (l.drop 8).take n) := by
    rw [List.take_add, ← h4, ← List.append_assoc]
    congr 1
    exact List.take_add (l := l) (i := 4) (j := 4)
  obtain ⟨s, hse⟩ : ∃ s, s = (l.drop 8).take n := ⟨_, rfl⟩
  obtain ⟨m, hm⟩ : ∃ m, m = (l.drop 4).take 4 := ⟨_, rfl⟩
  have hh : head? l = if be4 (crc (be4 n ++ s)) = m then some s else none := by
    unfold head?
    rw [if_neg (by omega), ← hn, if_neg (by omega), h4, ← hse, ← hm]
  rw [hh, hs, ← hse, ← hm]
  rw [← hse] at hl
  unfold rec_
  rw [hl]
  by_cases hc : be4 (crc (be4 n ++ s)) = m
  · rw [if_pos hc, if_pos (by rw [hc])]
  · rw [if_neg hc, if_neg]
    intro he
    exact hc (List.append_cancel_right (List.append_cancel_left he))
/-- a number of the first bytes -/
def numJ (l : Bs) (i : Nat) : Nat := (l.take i).foldl (fun a b => a * 256 + b.toNat) 0
theorem numJ_succ (l : Bs) (i : Nat) (h : i < l.length) : numJ l (i + 1) = numJ l i * 256 + l[i].toNat := by
  unfold numJ
  rw [List.take_succ_eq_append_getElem h, List.foldl_append]
  rfl
theorem numJ_4 : ∀ (l : Bs), 4 ≤ l.length → numJ l 4 = num4 l
  | a :: b :: c :: d :: t, _ => by
    simp only [numJ, num4, List.take_succ_cons, List.take_zero, List.foldl_cons, List.foldl_nil, List.getD_cons_zero, List.getD_cons_succ]
    omega
theorem numJ_lt (l : Bs) (i : Nat) (h : i ≤ 4) : numJ l i ≤ 4294967295 := by
  have key : ∀ (m : Bs) (a : Nat), m.foldl (fun a b => a * 256 + b.toNat) a ≤ a * 256 ^ m.length + (256 ^ m.length - 1) := by
    intro m
    induction m with
    | nil => intro a; simp
    | cons x m ih =>
      intro a
      have := ih (a * 256 + x.toNat)
      have hx := x.toNat_lt
      simp only [List.foldl_cons, List.length_cons, Nat.pow_succ]
      refine Nat.le_trans this ?_
      have hp : 0 < 256 ^ m.length := Nat.pow_pos (by decide)
      have e1 : (a * 256 + x.toNat) * 256 ^ m.length ≤ (a * 256 + 255) * 256 ^ m.length := Nat.mul_le_mul_right _ (by omega)
      have e2 : (a * 256 + 255) * 256 ^ m.length = a * (256 ^ m.length * 256) + 255 * 256 ^ m.length := by
        rw [Nat.add_mul, Nat.mul_assoc, Nat.mul_comm 256]
      omega
  have h1 := key (l.take i) 0
  have h2 : (l.take i).length ≤ 4 := by rw [List.length_take]; omega
  have h3 : 256 ^ (l.take i).length ≤ 256 ^ 4 := Nat.pow_le_pow_right (by decide) h2
  unfold numJ
  have h4 : (256 : Nat) ^ 4 = 4294967296 := by decide
  omega
end Go.Proofs.Ytmglkhnojimnlaa.WM

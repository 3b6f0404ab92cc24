/- The records of a log and their sums, as plain data. No program here. -/
import Derived.Test.YtmglkhnojimnlaaGreatMem
namespace Go.Proofs.YtmglkhnojimnlaaGreat.WM

abbrev Bs := List UInt8
def st (c : Nat) : Nat := (c >>> 1) ^^^ (if c % 2 = 1 then 3988292384 else 0)
def tab (i : Nat) : Nat := st (st (st (st (st (st (st (st i)))))))
def upd (c : Nat) (b : UInt8) : Nat := tab ((c % 256) ^^^ b.toNat) ^^^ (c >>> 8)
def run (c : Nat) (l : Bs) : Nat := l.foldl upd c
def crc (l : Bs) : Nat := 4294967295 ^^^ run 4294967295 l

theorem xor_lt {a b : Nat} (ha : a < 4294967296) (hb : b < 4294967296) : a ^^^ b < 4294967296 := Nat.xor_lt_two_pow (n := 32) ha hb
theorem st_lt {c : Nat} (h : c < 4294967296) : st c < 4294967296 := by
  unfold st
  refine xor_lt ?_ (by split <;> decide)
  rw [Nat.shiftRight_eq_div_pow]
  omega
theorem tab_lt {c : Nat} (h : c < 4294967296) : tab c < 4294967296 := by
  unfold tab
  exact st_lt (st_lt (st_lt (st_lt (st_lt (st_lt (st_lt (st_lt h)))))))
theorem low_lt (c : Nat) (b : UInt8) : (c % 256) ^^^ b.toNat < 256 := Nat.xor_lt_two_pow (n := 8) (Nat.mod_lt _ (by decide)) b.toNat_lt
theorem upd_lt {c : Nat} (h : c < 4294967296) (b : UInt8) : upd c b < 4294967296 := by
  unfold upd
  refine xor_lt (tab_lt (Nat.lt_trans (low_lt c b) (by decide))) ?_
  rw [Nat.shiftRight_eq_div_pow]
  omega
theorem run_lt : ∀ (l : Bs) (c : Nat), c < 4294967296 → run c l < 4294967296
  | [], _, h => h
  | b :: l, c, h => by
    show run (upd c b) l < _
    exact run_lt l _ (upd_lt h b)
theorem crc_lt (l : Bs) : crc l < 4294967296 := xor_lt (by decide) (run_lt l _ (by decide))
theorem run_append (c : Nat) (l m : Bs) : run c (l ++ m) = run (run c l) m := by unfold run; rw [List.foldl_append]
theorem xor_cancel {a b c : Nat} (h : a ^^^ b = a ^^^ c) : b = c := by
  have := congrArg (a ^^^ ·) h
  simpa [← Nat.xor_assoc] using this
theorem top_nodup : ((List.range 256).map (fun i => tab i / 16777216)).Nodup := by decide +kernel
theorem top_inj {x y : Nat} (hx : x < 256) (hy : y < 256) (h : tab x / 16777216 = tab y / 16777216) : x = y := by
  have hp := List.pairwise_iff_getElem.1 top_nodup
  rcases Nat.lt_trichotomy x y with h1 | h1 | h1
  · have := hp x y (by simpa using hx) (by simpa using hy) h1
    simp at this
    exact absurd h this
  · exact h1
  · have := hp y x (by simpa using hy) (by simpa using hx) h1
    simp at this
    exact absurd h.symm this
theorem top_of {c : Nat} (hc : c < 4294967296) (x : Nat) : (tab x ^^^ (c >>> 8)) / 16777216 = tab x / 16777216 := by
  have e : ∀ n : Nat, n / 16777216 = n >>> 24 := fun n => by rw [Nat.shiftRight_eq_div_pow]
  rw [e, e, Nat.shiftRight_xor_distrib, ← Nat.shiftRight_add]
  have : c >>> (8 + 24) = 0 := by rw [Nat.shiftRight_eq_div_pow]; omega
  rw [this, Nat.xor_zero]
theorem upd_inj {c c' : Nat} (hc : c < 4294967296) (hc' : c' < 4294967296) {b b' : UInt8} (h : upd c b = upd c' b') : (c % 256) ^^^ b.toNat = (c' % 256) ^^^ b'.toNat ∧ c / 256 = c' / 256 := by
  unfold upd at h
  have ht := top_of hc ((c % 256) ^^^ b.toNat)
  rw [h, top_of hc'] at ht
  have hx := top_inj (low_lt c' b') (low_lt c b) ht
  refine ⟨hx.symm, ?_⟩
  rw [hx] at h
  have := xor_cancel h
  rw [Nat.shiftRight_eq_div_pow, Nat.shiftRight_eq_div_pow] at this
  exact this
theorem upd_inj_c {c c' : Nat} (hc : c < 4294967296) (hc' : c' < 4294967296) {b : UInt8} (h : upd c b = upd c' b) : c = c' := by
  obtain ⟨h1, h2⟩ := upd_inj hc hc' h
  rw [Nat.xor_comm, Nat.xor_comm (c' % 256)] at h1
  have := xor_cancel h1
  omega
theorem upd_inj_b {c : Nat} (hc : c < 4294967296) {b b' : UInt8} (h : upd c b = upd c b') : b = b' := by
  obtain ⟨h1, _⟩ := upd_inj hc hc h
  exact UInt8.toNat_inj.1 (xor_cancel h1)
theorem run_inj : ∀ (l : Bs) {c c' : Nat}, c < 4294967296 → c' < 4294967296 → run c l = run c' l → c = c'
  | [], _, _, _, _, h => h
  | b :: l, c, c', h, h', e => upd_inj_c h h' (run_inj l (upd_lt h b) (upd_lt h' b) e)
/-- a sum sees that one byte is turned -/
theorem crc_turn (p q : Bs) {b b' : UInt8} (hb : b ≠ b') : crc (p ++ b :: q) ≠ crc (p ++ b' :: q) := by
  intro h
  unfold crc at h
  have h1 := xor_cancel h
  rw [run_append, run_append] at h1
  have hp := run_lt p 4294967295 (by decide)
  have h2 := run_inj q (upd_lt hp b) (upd_lt hp b') h1
  exact hb (upd_inj_b hp h2)

/-- a number of four bytes -/
def be4 (n : Nat) : Bs := [UInt8.ofNat (n / 16777216), UInt8.ofNat (n / 65536), UInt8.ofNat (n / 256), UInt8.ofNat n]
def num4 (b : Bs) : Nat := (b.getD 0 0).toNat * 16777216 + (b.getD 1 0).toNat * 65536 + (b.getD 2 0).toNat * 256 + (b.getD 3 0).toNat
theorem be4_length (n : Nat) : (be4 n).length = 4 := rfl
theorem num4_be4 {n : Nat} (h : n < 4294967296) (t : Bs) : num4 (be4 n ++ t) = n := by
  simp only [num4, be4, List.cons_append, List.nil_append, List.getD_cons_zero, List.getD_cons_succ, UInt8.toNat_ofNat']
  omega
theorem be4_inj {n m : Nat} (hn : n < 4294967296) (hm : m < 4294967296) (h : be4 n = be4 m) : n = m := by
  have h1 := num4_be4 hn []
  rw [h, num4_be4 hm] at h1
  exact h1.symm
theorem num4_lt (b : Bs) : num4 b < 4294967296 := by
  unfold num4
  have h0 := (b.getD 0 0).toNat_lt
  have h1 := (b.getD 1 0).toNat_lt
  have h2 := (b.getD 2 0).toNat_lt
  have h3 := (b.getD 3 0).toNat_lt
  omega
theorem be4_num4 (a b c d : UInt8) (t : Bs) : be4 (num4 (a :: b :: c :: d :: t)) = [a, b, c, d] := by
  simp only [num4, List.getD_cons_zero, List.getD_cons_succ, be4]
  have ha := a.toNat_lt
  have hb := b.toNat_lt
  have hc := c.toNat_lt
  have hd := d.toNat_lt
  congr 1
  · apply UInt8.toNat_inj.1; rw [UInt8.toNat_ofNat']; omega
  · congr 1
    · apply UInt8.toNat_inj.1; rw [UInt8.toNat_ofNat']; omega
    · congr 1
      · apply UInt8.toNat_inj.1; rw [UInt8.toNat_ofNat']; omega
      · congr 1
        apply UInt8.toNat_inj.1; rw [UInt8.toNat_ofNat']; omega

/-- a text as a record -/
def rec_ (s : Bs) : Bs := be4 s.length ++ (be4 (crc (be4 s.length ++ s)) ++ s)
theorem rec_length (s : Bs) : (rec_ s).length = 8 + s.length := by simp [rec_, be4_length]; omega
/-- does a record stand ahead? -/
def head? (b : Bs) : Option Bs :=
  if b.length < 8 then none
  else if b.length - 8 < num4 b ∨ 60000 < num4 b then none
  else if be4 (crc (b.take 4 ++ (b.drop 8).take (num4 b))) = (b.drop 4).take 4 then some ((b.drop 8).take (num4 b)) else none
def recsF : Nat → Bs → List Bs × Nat
  | 0, _ => ([], 0)
  | k + 1, b => match head? b with
    | none => ([], 0)
    | some s => (s :: (recsF k (b.drop (8 + s.length))).1, 8 + s.length + (recsF k (b.drop (8 + s.length))).2)
theorem head_len {b s : Bs} (h : head? b = some s) : 8 + s.length ≤ b.length := by
  unfold head? at h
  split at h
  · cases h
  · split at h
    · cases h
    · split at h
      · cases h
        simp only [List.length_take, List.length_drop]
        omega
      · cases h
theorem recsF_more : ∀ (k j : Nat) (b : Bs), b.length ≤ k → b.length ≤ j → recsF k b = recsF j b
  | 0, j, b, hk, _ => by
    have hb : b = [] := List.length_eq_zero_iff.1 (by omega)
    subst hb
    cases j <;> simp [recsF, head?]
  | k + 1, 0, b, _, hj => by
    have hb : b = [] := List.length_eq_zero_iff.1 (by omega)
    subst hb
    simp [recsF, head?]
  | k + 1, j + 1, b, hk, hj => by
    simp only [recsF]
    cases hh : head? b with
    | none => rfl
    | some s =>
      have hl := head_len hh
      have hd : (b.drop (8 + s.length)).length ≤ k := by simp only [List.length_drop]; omega
      have hd' : (b.drop (8 + s.length)).length ≤ j := by simp only [List.length_drop]; omega
      simp only [recsF_more k j _ hd hd']
def recs (b : Bs) : List Bs × Nat := recsF b.length b
theorem recs_none {b : Bs} (h : head? b = none) : recs b = ([], 0) := by
  unfold recs
  cases hl : b.length with
  | zero => rfl
  | succ k => simp only [recsF, h]
theorem recs_some {b s : Bs} (h : head? b = some s) : recs b = (s :: (recs (b.drop (8 + s.length))).1, 8 + s.length + (recs (b.drop (8 + s.length))).2) := by
  have hl := head_len h
  have e : recs b = recsF (b.length - 1 + 1) b := by unfold recs; congr 1; omega
  have hd : (b.drop (8 + s.length)).length ≤ b.length - 1 := by simp only [List.length_drop]; omega
  rw [e]
  simp only [recsF, h]
  rw [recsF_more (b.length - 1) _ _ hd (Nat.le_refl _)]
  rfl
theorem take_rec (s t : Bs) : (rec_ s ++ t).take 4 = be4 s.length := by
  unfold rec_
  rw [List.append_assoc, List.take_append_of_le_length (by simp [be4_length])]
  exact List.take_of_length_le (by simp [be4_length])
theorem drop4_rec (s t : Bs) : (rec_ s ++ t).drop 4 = be4 (crc (be4 s.length ++ s)) ++ (s ++ t) := by
  unfold rec_
  rw [List.append_assoc, List.drop_append_of_le_length (by simp [be4_length]), List.drop_of_length_le (by simp [be4_length])]
  simp
theorem drop8_rec (s t : Bs) : (rec_ s ++ t).drop 8 = s ++ t := by
  rw [show (8 : Nat) = 4 + 4 from rfl, ← List.drop_drop, drop4_rec, List.drop_append_of_le_length (by simp [be4_length]), List.drop_of_length_le (by simp [be4_length])]
  simp
theorem num4_rec (s t : Bs) (hs : s.length ≤ 60000) : num4 (rec_ s ++ t) = s.length := by
  unfold rec_
  rw [List.append_assoc]
  exact num4_be4 (by omega) _
theorem head_rec (s t : Bs) (hs : s.length ≤ 60000) : head? (rec_ s ++ t) = some s := by
  unfold head?
  have hl : (rec_ s ++ t).length = 8 + s.length + t.length := by rw [List.length_append, rec_length]
  rw [num4_rec s t hs, hl, take_rec, drop4_rec, drop8_rec]
  rw [if_neg (by omega), if_neg (by omega)]
  have e1 : (s ++ t).take s.length = s := by simp
  have e2 : (be4 (crc (be4 s.length ++ s)) ++ (s ++ t)).take 4 = be4 (crc (be4 s.length ++ s)) := by
    rw [List.take_append_of_le_length (by simp [be4_length])]
    exact List.take_of_length_le (by simp [be4_length])
  rw [e1, e2, if_pos rfl]
theorem drop_rec (s t : Bs) : (rec_ s ++ t).drop (8 + s.length) = t := by
  rw [← rec_length]; simp
theorem recs_rec (s t : Bs) (hs : s.length ≤ 60000) : recs (rec_ s ++ t) = (s :: (recs t).1, 8 + s.length + (recs t).2) := by
  rw [recs_some (head_rec s t hs), drop_rec]
/-- records one behind the other -/
def all (l : List Bs) : Bs := l.flatMap rec_
def lens (l : List Bs) : Nat := (all l).length
theorem all_cons (s : Bs) (l : List Bs) : all (s :: l) = rec_ s ++ all l := by simp [all]
theorem all_append (l m : List Bs) : all (l ++ m) = all l ++ all m := by simp [all]
theorem recs_all : ∀ (l : List Bs) (t : Bs), (∀ s ∈ l, s.length ≤ 60000) → recs (all l ++ t) = (l ++ (recs t).1, (all l).length + (recs t).2)
  | [], t, _ => by simp [all]
  | s :: l, t, h => by
    rw [all_cons, List.append_assoc, recs_rec s _ (h s (by simp)), recs_all l t (fun x hx => h x (by simp [hx]))]
    simp only [List.cons_append, List.length_append, rec_length]
    congr 1
    omega
theorem recs_short {t : Bs} (h : t.length < 8) : recs t = ([], 0) := recs_none (by unfold head?; rw [if_pos h])
/-- what is less than a record is none -/
theorem recs_part (s : Bs) (hs : s.length ≤ 60000) (n : Nat) (hn : n < 8 + s.length) : recs ((rec_ s).take n) = ([], 0) := by
  by_cases h8 : n < 8
  · exact recs_short (by rw [List.length_take]; omega)
  refine recs_none ?_
  unfold head?
  have hl : ((rec_ s).take n).length = n := by rw [List.length_take, rec_length]; omega
  have hnum : num4 ((rec_ s).take n) = s.length := by
    have h4 : (rec_ s).take n = be4 s.length ++ ((be4 (crc (be4 s.length ++ s)) ++ s).take (n - 4)) := by
      unfold rec_
      rw [List.take_append, be4_length, List.take_of_length_le (by rw [be4_length]; omega)]
    rw [h4]
    exact num4_be4 (by omega) _
  rw [hl, hnum, if_neg h8, if_pos (.inl (by omega))]
/-- a record one of whose bytes behind its length is turned is none -/
theorem rest_at (s : Bs) (j : Nat) (hj : j < 4 + s.length) : (rec_ s)[j + 4]'(by rw [rec_length]; omega) = (be4 (crc (be4 s.length ++ s)) ++ s)[j]'(by simp [be4_length]; omega) := by
  have h : (rec_ s)[j + 4]? = (be4 (crc (be4 s.length ++ s)) ++ s)[j]? := by
    unfold rec_
    rw [List.getElem?_append_right (by rw [be4_length]; omega), be4_length]
    simp
  rw [List.getElem?_eq_getElem (by rw [rec_length]; omega), List.getElem?_eq_getElem (by simp [be4_length]; omega)] at h
  exact Option.some.inj h
theorem head_turned (s t : Bs) (hs : s.length ≤ 60000) (j : Nat) (hj : j < 4 + s.length) (x : UInt8) (hx : x ≠ ((rec_ s)[j + 4]'(by rw [rec_length]; omega))) : head? ((rec_ s).set (j + 4) x ++ t) = none := by
  have hxx : x ≠ (be4 (crc (be4 s.length ++ s)) ++ s)[j]'(by simp [be4_length]; omega) := by rw [← rest_at s j hj]; exact hx
  unfold head?
  have hl : ((rec_ s).set (j + 4) x ++ t).length = 8 + s.length + t.length := by rw [List.length_append, List.length_set, rec_length]
  have hset : (rec_ s).set (j + 4) x = be4 s.length ++ (be4 (crc (be4 s.length ++ s)) ++ s).set j x := by
    unfold rec_
    rw [List.set_append_right _ _ (by rw [be4_length]; omega), be4_length]
    simp
  have hnum : num4 ((rec_ s).set (j + 4) x ++ t) = s.length := by
    rw [hset, List.append_assoc]
    exact num4_be4 (by omega) _
  have htake : ((rec_ s).set (j + 4) x ++ t).take 4 = be4 s.length := by
    rw [hset, List.append_assoc, List.take_append_of_le_length (by simp [be4_length])]
    exact List.take_of_length_le (by simp [be4_length])
  have hdrop : ((rec_ s).set (j + 4) x ++ t).drop 4 = (be4 (crc (be4 s.length ++ s)) ++ s).set j x ++ t := by
    rw [hset, List.append_assoc, List.drop_append_of_le_length (by simp [be4_length]), List.drop_of_length_le (by simp [be4_length])]
    simp
  rw [hl, hnum, htake, if_neg (by omega), if_neg (by omega)]
  refine if_neg ?_
  rw [show (8 : Nat) = 4 + 4 from rfl, ← List.drop_drop, hdrop]
  by_cases h8 : j < 4
  · -- the sum itself
    rw [List.set_append_left _ _ (by rw [be4_length]; exact h8), List.append_assoc]
    have e1 : ((be4 (crc (be4 s.length ++ s))).set j x ++ (s ++ t)).drop 4 = s ++ t := by
      rw [List.drop_append_of_le_length (by simp [be4_length]), List.drop_of_length_le (by simp [be4_length])]
      simp
    have e2 : ((be4 (crc (be4 s.length ++ s))).set j x ++ (s ++ t)).take 4 = (be4 (crc (be4 s.length ++ s))).set j x := by
      rw [List.take_append_of_le_length (by simp [be4_length])]
      exact List.take_of_length_le (by simp [be4_length])
    rw [e1, e2]
    have e3 : (s ++ t).take s.length = s := by simp
    rw [e3]
    intro h
    rw [List.getElem_append_left (by rw [be4_length]; exact h8)] at hxx
    have := congrArg (fun l => l[j]?) h
    simp only [List.getElem?_set] at this
    rw [if_pos trivial, if_pos (by rw [be4_length]; exact h8), List.getElem?_eq_getElem (by rw [be4_length]; exact h8)] at this
    exact hxx (Option.some.inj this).symm
  · -- the text
    rw [List.set_append_right _ _ (by rw [be4_length]; omega), be4_length, List.append_assoc]
    have hj2 : j - 4 < s.length := by omega
    have e1 : (be4 (crc (be4 s.length ++ s)) ++ (s.set (j - 4) x ++ t)).drop 4 = s.set (j - 4) x ++ t := by
      rw [List.drop_append_of_le_length (by simp [be4_length]), List.drop_of_length_le (by simp [be4_length])]
      simp
    have e2 : (be4 (crc (be4 s.length ++ s)) ++ (s.set (j - 4) x ++ t)).take 4 = be4 (crc (be4 s.length ++ s)) := by
      rw [List.take_append_of_le_length (by simp [be4_length])]
      exact List.take_of_length_le (by simp [be4_length])
    rw [e1, e2]
    have e3 : (s.set (j - 4) x ++ t).take s.length = s.set (j - 4) x := by
      rw [List.take_append_of_le_length (by simp)]
      exact List.take_of_length_le (by simp)
    rw [e3]
    intro h
    have h2 := be4_inj (crc_lt _) (crc_lt _) h
    rw [List.getElem_append_right (by rw [be4_length]; omega)] at hxx
    simp only [be4_length] at hxx
    have e4 : s = s.take (j - 4) ++ s[j - 4] :: s.drop (j - 4 + 1) := by simp
    have e5 : s.set (j - 4) x = s.take (j - 4) ++ x :: s.drop (j - 4 + 1) := by rw [List.set_eq_take_append_cons_drop, if_pos hj2]
    refine crc_turn (be4 s.length ++ s.take (j - 4)) (s.drop (j - 4 + 1)) hxx ?_
    rw [List.append_assoc, List.append_assoc, ← e5, ← e4]
    exact h2
end Go.Proofs.YtmglkhnojimnlaaGreat.WM

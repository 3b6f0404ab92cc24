/- Names and records of the resolver, as plain data. No program here. -/
import Derived.Test.YtibbfihnhlgkeaaMem
namespace Go.Proofs.Ytibbfihnhlgkeaa.NM

abbrev Bs := List UInt8
def bs (s : ByteArray) : Bs := s.data.toList
def ofBs (l : Bs) : ByteArray := ⟨l.toArray⟩
theorem bs_length (s : ByteArray) : (bs s).length = s.size := by unfold bs; rw [Array.length_toList]; rfl
theorem bs_ofBs (l : Bs) : bs (ofBs l) = l := by simp [bs, ofBs]
theorem ofBs_bs (s : ByteArray) : ofBs (bs s) = s := by simp [bs, ofBs]
theorem ofBs_size (l : Bs) : (ofBs l).size = l.length := by simp [ofBs, ByteArray.size]
theorem bs_append (a b : ByteArray) : bs (a ++ b) = bs a ++ bs b := by simp [bs, ByteArray.data_append]
theorem ofBs_append (a b : Bs) : ofBs (a ++ b) = ofBs a ++ ofBs b := by rw [← ofBs_bs (ofBs a ++ ofBs b), bs_append, bs_ofBs, bs_ofBs]
theorem bs_inj {a b : ByteArray} (h : bs a = bs b) : a = b := by rw [← ofBs_bs a, h, ofBs_bs]
theorem bs_extract (s : ByteArray) (i j : Nat) : bs (s.extract i j) = ((bs s).drop i).take (j - i) := by
  simp [bs, ByteArray.data_extract, List.extract_eq_take_drop]
theorem bs_at (s : ByteArray) (i : Nat) (h : i < s.size) : (bs s)[i]'(by rw [bs_length]; exact h) = s[i] := by
  unfold bs
  rw [Array.getElem_toList]
  rfl
theorem bs_drop (s : ByteArray) (i : Nat) (h : i < s.size) : (bs s).drop i = s[i] :: (bs s).drop (i + 1) := by
  rw [List.drop_eq_getElem_cons (by rw [bs_length]; exact h), bs_at s i h]
/-- a row's labels, and what is left where it ends (none: it is no row) -/
def scan : Bs → List Bs × Option Bs
  | [] => ([], some [])
  | k :: t =>
    if k = 0 then ([], some (k :: t))
    else if 63 < k.toNat ∨ t.length < k.toNat then ([], none)
    else ((t.take k.toNat) :: (scan (t.drop k.toNat)).1, (scan (t.drop k.toNat)).2)
termination_by l => l.length
decreasing_by all_goals (simp; omega)

theorem scan_nil : scan [] = ([], some []) := by rw [scan]
theorem scan_zero (t : Bs) : scan (0 :: t) = ([], some (0 :: t)) := by rw [scan]; simp
theorem scan_bad {k : UInt8} {t : Bs} (h0 : k ≠ 0) (h : 63 < k.toNat ∨ t.length < k.toNat) : scan (k :: t) = ([], none) := by rw [scan, if_neg h0, if_pos h]
theorem scan_good {k : UInt8} {t : Bs} (h0 : k ≠ 0) (h : k.toNat ≤ 63) (h2 : k.toNat ≤ t.length) :
    scan (k :: t) = (t.take k.toNat :: (scan (t.drop k.toNat)).1, (scan (t.drop k.toNat)).2) := by rw [scan, if_neg h0, if_neg (by omega)]

def labels (l : Bs) : List Bs := (scan l).1
def check (l : Bs) : Int := if (scan l).2 = some [0] then if 255 < l.length then 11 else 0 else 10
def depth (l : Bs) : Int := if check l = 0 then ((labels l).length : Int) else -1
def lo (c : UInt8) : UInt8 := if 65 ≤ c ∧ c ≤ 90 then c + 32 else c
def lower (l : Bs) : Bs := l.map lo
def common : List Bs → List Bs → Nat
  | a :: x, b :: y => if a = b then common x y + 1 else 0
  | _, _ => 0
def shared (a b : Bs) : Int := if check a = 0 ∧ check b = 0 then (common ((labels a).map lower).reverse ((labels b).map lower).reverse : Int) else -1
def same (a b : Bs) : Bool := decide (check a = 0 ∧ lower a = lower b)
def sameR (a b : Bs) : Bool := decide (0 ≤ shared a b ∧ shared a b = depth a ∧ shared a b = depth b)
def under (n z : Bs) : Bool := decide (0 ≤ shared n z ∧ shared n z = depth z)

theorem check_cases (l : Bs) : check l = 0 ∨ check l = 10 ∨ check l = 11 := by
  unfold check; split
  · split <;> simp
  · simp
theorem check_zero {l : Bs} (h : check l = 0) : (scan l).2 = some [0] ∧ l.length ≤ 255 := by
  unfold check at h
  split at h
  · split at h
    · exact absurd h (by decide)
    · exact ⟨by assumption, by omega⟩
  · exact absurd h (by decide)

/-! ### small letters -/
theorem lo_toNat (c : UInt8) : (lo c).toNat = if 65 ≤ c.toNat ∧ c.toNat ≤ 90 then c.toNat + 32 else c.toNat := by
  unfold lo
  have h1 : (65 ≤ c ∧ c ≤ 90) ↔ (65 ≤ c.toNat ∧ c.toNat ≤ 90) := by rw [UInt8.le_iff_toNat_le, UInt8.le_iff_toNat_le]; exact Iff.rfl
  by_cases h : 65 ≤ c.toNat ∧ c.toNat ≤ 90
  · rw [if_pos (h1.2 h), if_pos h, UInt8.toNat_add]
    show (c.toNat + 32) % 256 = _
    omega
  · rw [if_neg (fun e => h (h1.1 e)), if_neg h]
theorem lo_small {c : UInt8} (h : c.toNat ≤ 63) : lo c = c := by
  apply UInt8.toNat_inj.1
  rw [lo_toNat, if_neg (by omega)]
theorem lo_big {c : UInt8} (h : 63 < c.toNat) : 63 < (lo c).toNat := by
  rw [lo_toNat]; split <;> omega
theorem lo_lo (c : UInt8) : lo (lo c) = lo c := by
  apply UInt8.toNat_inj.1
  rw [lo_toNat (lo c), lo_toNat c]
  by_cases h : 65 ≤ c.toNat ∧ c.toNat ≤ 90
  · rw [if_pos h, if_neg (by omega)]
  · rw [if_neg h, if_neg h]
theorem lower_length (l : Bs) : (lower l).length = l.length := by unfold lower; simp
theorem lower_lower (l : Bs) : lower (lower l) = lower l := by
  unfold lower; rw [List.map_map]
  exact List.map_congr_left (fun c _ => lo_lo c)
theorem lower_scan (l : Bs) : scan (lower l) = ((scan l).1.map lower, (scan l).2.map lower) := by
  suffices h : ∀ n l, l.length ≤ n → scan (lower l) = ((scan l).1.map lower, (scan l).2.map lower) from h _ l (Nat.le_refl _)
  intro n
  induction n with
  | zero =>
    intro l hl
    obtain rfl : l = [] := List.length_eq_zero_iff.1 (by omega)
    simp [lower, scan_nil]
  | succ n ih =>
    intro l hl
    cases l with
    | nil => simp [lower, scan_nil]
    | cons k t =>
      have hlc : lower (k :: t) = lo k :: lower t := rfl
      by_cases h0 : k = 0
      · subst h0
        rw [hlc, show lo 0 = 0 from by decide, scan_zero, scan_zero]
        simp [lower, show lo 0 = 0 from by decide]
      · by_cases h63 : 63 < k.toNat
        · rw [hlc, scan_bad (k := lo k) (fun e => by have := lo_big h63; rw [e] at this; exact absurd this (by decide)) (.inl (lo_big h63)), scan_bad h0 (.inl h63)]
          rfl
        · have hk : lo k = k := lo_small (by omega)
          by_cases hlen : t.length < k.toNat
          · rw [hlc, hk, scan_bad h0 (.inr (by rw [lower_length]; exact hlen)), scan_bad h0 (.inr hlen)]
            rfl
          · rw [hlc, hk, scan_good h0 (by omega) (by rw [lower_length]; omega), scan_good h0 (by omega) (by omega)]
            have e : (lower t).drop k.toNat = lower (t.drop k.toNat) := by simp [lower]
            have e2 : (lower t).take k.toNat = lower (t.take k.toNat) := by simp [lower]
            rw [e, e2, ih _ (by simp at hl ⊢; omega)]
            rfl
theorem lower_check (l : Bs) : check (lower l) = check l := by
  unfold check
  rw [lower_scan, lower_length]
  have : ((scan l).2.map lower = some [0]) ↔ (scan l).2 = some [0] := by
    cases h : (scan l).2 with
    | none => simp
    | some r =>
      simp only [Option.map_some, Option.some.injEq]
      constructor
      · intro e
        cases r with
        | nil => simp [lower] at e
        | cons c r2 =>
          have h2 : lower (c :: r2) = lo c :: lower r2 := rfl
          rw [h2] at e
          injection e with e1 e3
          have h3 : r2 = [] := by
            have := congrArg List.length e3
            rw [lower_length] at this
            exact List.length_eq_zero_iff.1 this
          subst h3
          have : c = 0 := by
            apply UInt8.toNat_inj.1
            have h4 := congrArg UInt8.toNat e1
            rw [lo_toNat] at h4
            have : (0 : UInt8).toNat = 0 := rfl
            split at h4 <;> omega
          rw [this]
      · intro e; rw [e]; decide
  by_cases h : (scan l).2 = some [0]
  · rw [if_pos (this.2 h), if_pos h]
  · rw [if_neg (fun e => h (this.1 e)), if_neg h]
theorem lower_labels (l : Bs) : labels (lower l) = (labels l).map lower := by unfold labels; rw [lower_scan]

/-! ### what a name is made of -/
def enc (L : List Bs) : Bs := (L.map (fun s => UInt8.ofNat s.length :: s)).flatten
theorem scan_enc (l : Bs) : ∀ r, (scan l).2 = some r → l = enc (scan l).1 ++ r ∧ (r = [] ∨ ∃ t, r = 0 :: t) := by
  suffices h : ∀ n l, l.length ≤ n → ∀ r, (scan l).2 = some r → l = enc (scan l).1 ++ r ∧ (r = [] ∨ ∃ t, r = 0 :: t) from h _ l (Nat.le_refl _)
  intro n
  induction n with
  | zero =>
    intro l hl r hr
    obtain rfl : l = [] := List.length_eq_zero_iff.1 (by omega)
    rw [scan_nil] at hr ⊢
    simp at hr; subst hr
    simp [enc]
  | succ n ih =>
    intro l hl r hr
    cases l with
    | nil => rw [scan_nil] at hr ⊢; simp at hr; subst hr; simp [enc]
    | cons k t =>
      by_cases h0 : k = 0
      · subst h0
        rw [scan_zero] at hr ⊢
        simp at hr; subst hr
        simp [enc]
      · by_cases hb : 63 < k.toNat ∨ t.length < k.toNat
        · rw [scan_bad h0 hb] at hr; simp at hr
        · rw [scan_good h0 (by omega) (by omega)] at hr ⊢
          obtain ⟨h1, h2⟩ := ih (t.drop k.toNat) (by simp at hl ⊢; omega) r hr
          refine ⟨?_, h2⟩
          have hk : UInt8.ofNat (t.take k.toNat).length = k := by
            rw [List.length_take, Nat.min_eq_left (by omega)]; simp
          have h3 : enc (t.take k.toNat :: (scan (t.drop k.toNat)).1) = k :: t.take k.toNat ++ enc (scan (t.drop k.toNat)).1 := by
            unfold enc
            rw [List.map_cons, List.flatten_cons, hk]
          show k :: t = enc (t.take k.toNat :: (scan (t.drop k.toNat)).1) ++ r
          rw [h3, List.append_assoc, ← h1]
          simp
theorem enc_lower (L : List Bs) : lower (enc L) = enc (L.map lower) ∨ ∃ s ∈ L, 63 < s.length := by
  induction L with
  | nil => exact .inl rfl
  | cons s L ih =>
    by_cases h : 63 < s.length
    · exact .inr ⟨s, by simp, h⟩
    · rcases ih with ih | ⟨x, hx, h2⟩
      · left
        have e1 : enc (s :: L) = UInt8.ofNat s.length :: s ++ enc L := by unfold enc; rw [List.map_cons, List.flatten_cons]
        have e2 : enc (lower s :: L.map lower) = UInt8.ofNat s.length :: lower s ++ enc (L.map lower) := by unfold enc; rw [List.map_cons, List.flatten_cons, lower_length]
        have h4 : lo (UInt8.ofNat s.length) = UInt8.ofNat s.length := lo_small (by simp; omega)
        have e5 : lower (UInt8.ofNat s.length :: s ++ enc L) = lo (UInt8.ofNat s.length) :: lower s ++ lower (enc L) := by simp [lower]
        rw [List.map_cons, e1, e2, e5, h4, ih]
      · exact .inr ⟨x, by simp [hx], h2⟩
theorem scan_short (l : Bs) : ∀ s ∈ (scan l).1, s.length ≤ 63 := by
  suffices h : ∀ n l, l.length ≤ n → ∀ s ∈ (scan l).1, s.length ≤ 63 from h _ l (Nat.le_refl _)
  intro n
  induction n with
  | zero =>
    intro l hl s hs
    obtain rfl : l = [] := List.length_eq_zero_iff.1 (by omega)
    rw [scan_nil] at hs; simp at hs
  | succ n ih =>
    intro l hl s hs
    cases l with
    | nil => rw [scan_nil] at hs; simp at hs
    | cons k t =>
      by_cases h0 : k = 0
      · subst h0; rw [scan_zero] at hs; simp at hs
      · by_cases hb : 63 < k.toNat ∨ t.length < k.toNat
        · rw [scan_bad h0 hb] at hs; simp at hs
        · rw [scan_good h0 (by omega) (by omega)] at hs
          rcases List.mem_cons.1 hs with rfl | hs
          · rw [List.length_take]; omega
          · exact ih _ (by simp at hl ⊢; omega) s hs
theorem labels_length (l : Bs) : (labels l).length ≤ l.length := by
  unfold labels
  suffices h : ∀ n l, l.length ≤ n → (scan l).1.length ≤ l.length from h _ l (Nat.le_refl _)
  intro n
  induction n with
  | zero =>
    intro l hl
    obtain rfl : l = [] := List.length_eq_zero_iff.1 (by omega)
    rw [scan_nil]; simp
  | succ n ih =>
    intro l hl
    cases l with
    | nil => rw [scan_nil]; simp
    | cons k t =>
      by_cases h0 : k = 0
      · subst h0; rw [scan_zero]; simp
      · by_cases hb : 63 < k.toNat ∨ t.length < k.toNat
        · rw [scan_bad h0 hb]; simp
        · rw [scan_good h0 (by omega) (by omega)]
          have := ih (t.drop k.toNat) (by simp at hl ⊢; omega)
          simp at this ⊢; omega
theorem name_of {l : Bs} (h : check l = 0) : l = enc (labels l) ++ [0] := (scan_enc l _ (check_zero h).1).1
theorem lower_of {l : Bs} (h : check l = 0) : lower l = enc ((labels l).map lower) ++ [0] := by
  have h1 := name_of h
  have h2 : lower l = lower (enc (labels l)) ++ [0] := by
    conv => lhs; rw [h1]
    unfold lower
    rw [List.map_append]
    rfl
  rw [h2]
  rcases enc_lower (labels l) with h3 | ⟨s, hs, h3⟩
  · rw [h3]
  · have := scan_short l s hs; omega
theorem common_self (x : List Bs) : common x x = x.length := by
  induction x with
  | nil => rfl
  | cons a x ih => simp [common, ih]
theorem common_le (x y : List Bs) : common x y ≤ x.length ∧ common x y ≤ y.length := by
  induction x generalizing y with
  | nil => cases y <;> simp [common]
  | cons a x ih =>
    cases y with
    | nil => simp [common]
    | cons b y =>
      unfold common
      split
      · have := ih y; simp; omega
      · simp
theorem common_all {x y : List Bs} (h1 : common x y = x.length) (h2 : common x y = y.length) : x = y := by
  induction x generalizing y with
  | nil => cases y with
    | nil => rfl
    | cons b y => simp [common] at h2
  | cons a x ih =>
    cases y with
    | nil => simp [common] at h1
    | cons b y =>
      unfold common at h1 h2
      split at h1
      · rename_i e
        rw [if_pos e] at h2
        rw [e, ih (by simpa using h1) (by simpa using h2)]
      · simp at h1
theorem same_eq (a : Bs) {b : Bs} (hb : check b = 0) : same a b = sameR a b := by
  unfold same sameR
  rw [decide_eq_decide]
  unfold shared depth
  by_cases ha : check a = 0
  · rw [if_pos ⟨ha, hb⟩, if_pos ha, if_pos hb]
    constructor
    · rintro ⟨_, h⟩
      have h1 : (labels a).map lower = (labels b).map lower := by rw [← lower_labels, ← lower_labels, h]
      have h2 : (labels a).length = (labels b).length := by simpa using congrArg List.length h1
      rw [h1, common_self]
      simp [h2]
    · rintro ⟨_, h1, h2⟩
      refine ⟨ha, ?_⟩
      have h3 : ((labels a).map lower).reverse = ((labels b).map lower).reverse := common_all (by simp; omega) (by simp; omega)
      rw [lower_of ha, lower_of hb, List.reverse_inj.1 h3]
  · rw [if_neg (fun h => ha h.1)]
    constructor
    · rintro ⟨h, _⟩; exact absurd h ha
    · rintro ⟨h, _⟩; exact absurd h (by decide)

/-! ### records -/
/-- what is left where a row of lengths ends, whatever they are -/
def skip : Bs → Bs
  | [] => []
  | k :: t => if k = 0 then k :: t else skip (t.drop k.toNat)
termination_by l => l.length
decreasing_by all_goals (simp; omega)
theorem skip_nil : skip [] = [] := by rw [skip]
theorem skip_zero (t : Bs) : skip (0 :: t) = 0 :: t := by rw [skip]; simp
theorem skip_go {k : UInt8} {t : Bs} (h : k ≠ 0) : skip (k :: t) = skip (t.drop k.toNat) := by rw [skip, if_neg h]
/-- what is behind a name at the beginning -/
def first (s : Bs) : Option Bs :=
  if skip s = [] then none else if check (s.take (s.length - (skip s).length + 1)) = 0 then some (s.drop (s.length - (skip s).length + 1)) else none
def names : Nat → Bs → Option Bs
  | 0, s => some s
  | n + 1, s => match first s with
    | none => none
    | some r => names n r
def txt : Bs → Bool
  | [] => true
  | k :: t => if t.length < k.toNat then false else txt (t.drop k.toNat)
termination_by l => l.length
decreasing_by all_goals (simp; omega)
theorem txt_nil : txt [] = true := by rw [txt]
theorem txt_bad {k : UInt8} {t : Bs} (h : t.length < k.toNat) : txt (k :: t) = false := by rw [txt, if_pos h]
theorem txt_go {k : UInt8} {t : Bs} (h : k.toNat ≤ t.length) : txt (k :: t) = txt (t.drop k.toNat) := by rw [txt, if_neg (by omega)]
/-- data of a type with names: so many bytes, so many names, so many bytes -/
def cut (a n b : Nat) (d : Bs) : Bool :=
  if d.length < a then false else match names n (d.drop a) with
  | none => false
  | some r => decide (r.length = b)
def right (t : Int) (d : Bs) : Bool :=
  if t = 1 then decide (d.length = 4)
  else if t = 28 then decide (d.length = 16)
  else if t = 16 then txt d && decide (0 < d.length)
  else if t = 2 ∨ t = 5 ∨ t = 12 then cut 0 1 0 d
  else if t = 15 then cut 2 1 0 d
  else if t = 6 then cut 0 2 20 d
  else true
def rcheck (n : Bs) (t : Int) (d : Bs) : Int :=
  if check n ≠ 0 then check n else if 2000 < d.length then 11 else if right t d then 0 else 10
theorem skip_length (l : Bs) : (skip l).length ≤ l.length := by
  suffices h : ∀ n l, l.length ≤ n → (skip l).length ≤ l.length from h _ l (Nat.le_refl _)
  intro n
  induction n with
  | zero =>
    intro l hl
    obtain rfl : l = [] := List.length_eq_zero_iff.1 (by omega)
    rw [skip_nil]; simp
  | succ n ih =>
    intro l hl
    cases l with
    | nil => rw [skip_nil]; simp
    | cons k t =>
      by_cases h0 : k = 0
      · subst h0; rw [skip_zero]; simp
      · rw [skip_go h0]
        have := ih (t.drop k.toNat) (by simp at hl ⊢; omega)
        simp at this ⊢; omega
end Go.Proofs.Ytibbfihnhlgkeaa.NM

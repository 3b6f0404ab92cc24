/- The cache: its entries, its heap, its calls, as plain data. No program here. -/
import Derived.Test.YtibbfihnhlgkeaaNameM
namespace Go.Proofs.Ytibbfihnhlgkeaa.CM
open NM (Bs bs ofBs)

structure R where
  name : ByteArray
  type : Int
  cls : Int
  ttl : Int
  data : ByteArray
structure E where
  kind : Int
  name : ByteArray
  type : Int
  cls : Int
  recs : List R
  til : Int
  rank : Int
  epoch : Int
  src : Int
/-- an entry in memory: its block, its records' slice -/
structure It where
  g : Nat
  e : E
  rv : Value
  key : ByteArray
  used : Int
def It.none_ : It := ⟨0, ⟨0, ⟨#[]⟩, 0, 0, [], 0, 0, 0, 0⟩, .slice none 0 0, ⟨#[]⟩, 0⟩
instance : Inhabited It := ⟨It.none_⟩

/-! ### which entries may be, and their keys (P16.1) -/
def okRec (e : E) (r : R) : Bool :=
  decide (r.cls = e.cls) && (if e.kind = 1 then decide (r.type = e.type) && NM.same (bs r.name) (bs e.name) else decide (r.type = 6)) && decide (NM.rcheck (bs r.name) r.type (bs r.data) = 0)
/-- all but the records -/
def okHead (e : E) : Bool :=
  decide ((1 ≤ e.kind ∧ e.kind ≤ 3) ∧ NM.check (bs e.name) = 0 ∧ (0 ≤ e.til ∧ e.til ≤ 1125899906842624) ∧ (1 ≤ e.rank ∧ e.rank ≤ 4) ∧ (0 ≤ e.epoch ∧ e.epoch ≤ 1099511627776))
def okLen (e : E) : Bool :=
  decide (((if e.kind = 1 then 1 else 0) ≤ e.recs.length ∧ e.recs.length ≤ (if e.kind = 1 then 64 else 1)) ∧ ¬ (e.kind = 3 ∧ e.type ≠ 0))
def check (e : E) : Int := if (okHead e && okLen e && e.recs.all (okRec e)) = true then 0 else 1
def keyB (part : Nat) (n : Bs) (t c : Int) : Bs :=
  UInt8.ofNat part :: (NM.lower n ++ [UInt8.ofNat (t.toNat / 256), UInt8.ofNat t.toNat, UInt8.ofNat (c.toNat / 256), UInt8.ofNat c.toNat])
def key (e : E) : ByteArray := ofBs (if e.kind = 3 then keyB 1 (bs e.name) 0 e.cls else keyB 0 (bs e.name) e.type e.cls)
theorem check_cases (e : E) : check e = 0 ∨ check e = 1 := by unfold check; split <;> simp

/-! ### the heap -/
def swap (l : List It) (i j : Nat) : List It := (l.set i l[j]!).set j l[i]!
def less (l : List It) (i j : Nat) : Bool := decide (l[i]!.e.til < l[j]!.e.til)
def up : Nat → List It → Nat → List It
  | 0, l, _ => l
  | f + 1, l, j => if (j - 1) / 2 = j ∨ less l j ((j - 1) / 2) = false then l else up f (swap l ((j - 1) / 2) j) ((j - 1) / 2)
/-- the less of the two below -/
def child (l : List It) (i n : Nat) : Nat := if 2 * i + 2 < n ∧ less l (2 * i + 2) (2 * i + 1) = true then 2 * i + 2 else 2 * i + 1
def down : Nat → List It → Nat → Nat → List It × Nat
  | 0, l, i, _ => (l, i)
  | f + 1, l, i, n => if n ≤ 2 * i + 1 then (l, i) else if less l (child l i n) i = false then (l, i) else down f (swap l i (child l i n)) (child l i n) n
def push (l : List It) (x : It) : List It := up (l.length + 1) (l ++ [x]) l.length
/-- an entry's place is mended, the last one being no part of it -/
def fix (l : List It) (i n : Nat) : List It := if i < (down (n + 1) l i n).2 then (down (n + 1) l i n).1 else up (i + 1) (down (n + 1) l i n).1 i
def remove (l : List It) (i : Nat) : List It :=
  (if l.length - 1 = i then l else fix (swap l i (l.length - 1)) i (l.length - 1)).take (l.length - 1)

theorem swap_length (l : List It) (i j : Nat) : (swap l i j).length = l.length := by unfold swap; simp
theorem swap_perm (l : List It) (i j : Nat) (hi : i < l.length) (hj : j < l.length) : (swap l i j).Perm l := by
  have h := Array.swap_perm (xs := l.toArray) (i := i) (j := j) (by simpa using hi) (by simpa using hj)
  have h2 := Array.perm_iff_toList_perm.1 h
  have e : (l.toArray.swap i j (by simpa using hi) (by simpa using hj)).toList = swap l i j := by
    unfold swap
    rw [getElem!_pos l j hj, getElem!_pos l i hi]
    simp [Array.swap]
  rw [e] at h2
  simpa using h2
theorem up_length : ∀ (f : Nat) (l : List It) (j : Nat), (up f l j).length = l.length
  | 0, _, _ => rfl
  | f + 1, l, j => by
    unfold up
    split
    · rfl
    · rw [up_length f, swap_length]
theorem up_perm : ∀ (f : Nat) (l : List It) (j : Nat), j < l.length → (up f l j).Perm l
  | 0, _, _, _ => List.Perm.refl _
  | f + 1, l, j, h => by
    unfold up
    split
    · exact List.Perm.refl _
    · exact (up_perm f _ _ (by rw [swap_length]; omega)).trans (swap_perm _ _ _ (by omega) h)
theorem child_cases (l : List It) (i n : Nat) : child l i n = 2 * i + 1 ∨ (child l i n = 2 * i + 2 ∧ 2 * i + 2 < n) := by
  unfold child
  split
  · rename_i h; exact .inr ⟨rfl, h.1⟩
  · exact .inl rfl
theorem down_length : ∀ (f : Nat) (l : List It) (i n : Nat), (down f l i n).1.length = l.length
  | 0, _, _, _ => rfl
  | f + 1, l, i, n => by
    unfold down
    split
    · rfl
    · split
      · rfl
      · rw [down_length f, swap_length]
/-- what lies at or beyond n stays; the rest is another order -/
theorem down_perm : ∀ (f : Nat) (l : List It) (i n : Nat), n ≤ l.length → (down f l i n).1.Perm l ∧ i ≤ (down f l i n).2 ∧ (∀ k, n ≤ k → (down f l i n).1[k]? = l[k]?)
  | 0, _, _, _, _ => ⟨List.Perm.refl _, Nat.le_refl _, fun _ _ => rfl⟩
  | f + 1, l, i, n, h => by
    unfold down
    split
    · exact ⟨List.Perm.refl _, Nat.le_refl _, fun _ _ => rfl⟩
    · split
      · exact ⟨List.Perm.refl _, Nat.le_refl _, fun _ _ => rfl⟩
      · rename_i hn _
        have hc : child l i n < n ∧ i < child l i n := by
          rcases child_cases l i n with h1 | ⟨h1, h2⟩ <;> rw [h1] <;> omega
        obtain ⟨h1, h2, h3⟩ := down_perm f (swap l i (child l i n)) (child l i n) n (by rw [swap_length]; exact h)
        refine ⟨h1.trans (swap_perm _ _ _ (by omega) (by omega)), by omega, fun k hk => ?_⟩
        rw [h3 k hk]
        unfold swap
        rw [List.getElem?_set_ne (by omega), List.getElem?_set_ne (by omega)]
theorem up_far : ∀ (f : Nat) (l : List It) (j : Nat) (k : Nat), j < k → (up f l j)[k]? = l[k]?
  | 0, _, _, _, _ => rfl
  | f + 1, l, j, k, h => by
    unfold up
    split
    · rfl
    · rw [up_far f _ _ k (by omega)]
      unfold swap
      rw [List.getElem?_set_ne (by omega), List.getElem?_set_ne (by omega)]
theorem fix_length (l : List It) (i n : Nat) : (fix l i n).length = l.length := by
  unfold fix
  split
  · exact down_length _ _ _ _
  · rw [up_length, down_length]
theorem fix_perm (l : List It) (i n : Nat) (hn : n ≤ l.length) (hi : i < n) : (fix l i n).Perm l ∧ ∀ k, n ≤ k → (fix l i n)[k]? = l[k]? := by
  unfold fix
  obtain ⟨h1, h2, h3⟩ := down_perm (n + 1) l i n hn
  split
  · exact ⟨h1, h3⟩
  · refine ⟨(up_perm _ _ _ (by rw [down_length]; omega)).trans h1, fun k hk => ?_⟩
    rw [up_far _ _ _ k (by omega), h3 k hk]
theorem push_length (l : List It) (x : It) : (push l x).length = l.length + 1 := by unfold push; rw [up_length]; simp
theorem push_perm (l : List It) (x : It) : (push l x).Perm (x :: l) := by
  unfold push
  exact (up_perm _ _ _ (by simp)).trans (List.perm_append_singleton x l)
theorem remove_length (l : List It) (i : Nat) : (remove l i).length = l.length - 1 := by
  unfold remove
  split
  · rw [List.length_take]; omega
  · rw [List.length_take, fix_length, swap_length]; omega
theorem remove_perm (l : List It) (i : Nat) (hi : i < l.length) : (l[i] :: remove l i).Perm l := by
  have key : ∀ L : List It, L.length = l.length → L.Perm l → L[l.length - 1]? = some l[i] → (l[i] :: L.take (l.length - 1)).Perm l := by
    intro L hlen hp hlast
    have e : L = L.take (l.length - 1) ++ [l[i]] := by
      conv => lhs; rw [← List.take_append_drop (l.length - 1) L]
      congr 1
      have h1 : L.length - 1 < L.length := by omega
      rw [hlen.symm]
      rw [List.drop_eq_getElem_cons (by omega)]
      rw [← hlen] at hlast
      rw [List.getElem?_eq_getElem h1] at hlast
      rw [Option.some.inj hlast, List.drop_of_length_le (by omega)]
    refine List.Perm.trans ?_ hp
    conv => rhs; rw [e]
    exact (List.perm_append_singleton _ _).symm
  unfold remove
  split
  · rename_i h
    refine key l rfl (List.Perm.refl _) ?_
    subst h
    exact List.getElem?_eq_getElem hi
  · rename_i h
    have hlt : l.length - 1 < l.length := by omega
    obtain ⟨h1, h2⟩ := fix_perm (swap l i (l.length - 1)) i (l.length - 1) (by rw [swap_length]; omega) (by omega)
    refine key _ (by rw [fix_length, swap_length]) (h1.trans (swap_perm _ _ _ hi hlt)) ?_
    rw [h2 _ (Nat.le_refl _)]
    unfold swap
    rw [List.getElem?_set_self (by simp; omega), getElem!_pos l i hi]

/-! ### the cache -/
structure C where
  most : Int
  uses : Int
  h : List It
def find (l : List It) (k : ByteArray) : Option It := l.find? (fun x => x.key = k)
def place (l : List It) (g : Nat) : Nat := l.findIdx (fun x => x.g == g)
def dropG (l : List It) (g : Nat) : List It := remove l (place l g)
def expire : Nat → List It → Int → List It × Nat
  | 0, l, _ => (l, 0)
  | f + 1, l, now => match l with
    | [] => ([], 0)
    | x :: t => if x.e.til < now then ((expire f (remove (x :: t) 0) now).1, (expire f (remove (x :: t) 0) now).2 + 1) else (x :: t, 0)
/-- where the one stands that was used longest ago, among the first ones -/
def oldF (l : List It) : Nat → Nat
  | 0 => 0
  | k + 1 => if l[k + 1]!.used < l[oldF l k]!.used then k + 1 else oldF l k
def old (l : List It) : Nat := oldF l (l.length - 1)
def room (c : C) : Int := max c.most 1
/-- behind a new entry: what is stale goes, if there are too many, and then one more -/
def trim (m : Int) (l : List It) (now : Int) : List It :=
  let l1 := if m < l.length then (expire l.length l now).1 else l
  if m < l1.length then remove l1 (old l1) else l1
def without (l : List It) (k : ByteArray) : List It := match find l k with
  | none => l
  | some x => dropG l x.g
/-- is an entry refused for what is there? -/
def refused (l : List It) (e : E) (now : Int) : Bool := match find l (key e) with
  | none => false
  | some x => decide (now ≤ x.e.til ∧ e.rank < x.e.rank)
def mayPut (c : C) (e : E) (now : Int) : Bool := decide (check e = 0 ∧ now ≤ e.til) && !refused c.h e now
def put (c : C) (x : It) (now : Int) : C :=
  { c with uses := c.uses + 1, h := trim (room c) (push (without c.h x.key) { x with used := c.uses + 1 }) now }
def tell (c : C) (k : ByteArray) (now : Int) : Option It := (find c.h k).filter (fun x => decide (now ≤ x.e.til))
def used (c : C) (g : Nat) : C := { c with uses := c.uses + 1, h := c.h.map (fun x => if x.g = g then { x with used := c.uses + 1 } else x) }
end Go.Proofs.Ytibbfihnhlgkeaa.CM

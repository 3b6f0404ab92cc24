/- The disk as plain data: files by rising names. No program here. -/
import Derived.Sort.KeysCollected
namespace Go.Proofs.YtmglkhnojimnlaaGreat.DM

abbrev N := List UInt8
abbrev F := ByteArray × Nat
abbrev FL := List (N × F)

def look : FL → N → Option F
  | [], _ => none
  | p :: l, k => if p.1 = k then some p.2 else look l k
def put : FL → N → F → FL
  | [], k, f => [(k, f)]
  | p :: l, k, f => if p.1 = k then (k, f) :: l else if p.1 ≤ k then p :: put l k f else (k, f) :: p :: l
def del : FL → N → FL
  | [], _ => []
  | p :: l, k => if p.1 = k then l else p :: del l k
def names (l : FL) : List N := l.map (·.1)
def used : FL → Nat
  | [] => 0
  | p :: l => p.2.1.size + used l
def Sorted (l : FL) : Prop := (names l).Pairwise (fun x y => x ≤ y ∧ x ≠ y)

theorem Sorted.tail {p : N × F} {l : FL} (h : Sorted (p :: l)) : Sorted l := (List.pairwise_cons.1 h).2
theorem Sorted.head {p : N × F} {l : FL} (h : Sorted (p :: l)) : ∀ k ∈ names l, p.1 ≤ k ∧ p.1 ≠ k := (List.pairwise_cons.1 h).1
theorem Sorted.nil : Sorted [] := List.Pairwise.nil

theorem look_mem : ∀ {l : FL} {k : N} {f : F}, look l k = some f → (k, f) ∈ l
  | [], _, _, h => by simp [look] at h
  | p :: l, k, f, h => by
    unfold look at h
    split at h
    · rename_i e; cases h; subst e; simp
    · exact List.mem_cons_of_mem _ (look_mem h)
theorem look_names : ∀ {l : FL} {k : N}, look l k ≠ none ↔ k ∈ names l
  | [], k => by simp [look, names]
  | p :: l, k => by
    unfold look
    by_cases e : p.1 = k
    · rw [if_pos e]; simp [names, e]
    · rw [if_neg e, look_names (l := l)]
      simp only [names, List.map_cons, List.mem_cons]
      constructor
      · exact fun h => .inr h
      · rintro (h | h)
        · exact absurd h.symm e
        · exact h
theorem look_none {l : FL} {k : N} (h : k ∉ names l) : look l k = none := by
  cases hl : look l k with
  | none => rfl
  | some f => exact absurd (look_names.1 (by rw [hl]; simp)) h

theorem look_put : ∀ (l : FL) (k j : N) (f : F), Sorted l → look (put l k f) j = if k = j then some f else look l j
  | [], k, j, f, _ => by simp [put, look]
  | p :: l, k, j, f, h => by
    unfold put
    by_cases e : p.1 = k
    · rw [if_pos e]
      by_cases ej : k = j
      · simp [look, ej]
      · simp [look, ej, e]
    · rw [if_neg e]
      by_cases hl : p.1 ≤ k
      · rw [if_pos hl]
        unfold look
        by_cases ej : p.1 = j
        · rw [if_pos ej, if_pos ej, if_neg (fun h2 => e (ej.trans h2.symm))]
        · rw [if_neg ej, if_neg ej, look_put l k j f h.tail]
      · rw [if_neg hl]
        by_cases ej : k = j
        · simp [look, ej]
        · simp only [look, ej, if_false]
theorem names_put : ∀ (l : FL) (k j : N) (f : F), j ∈ names (put l k f) ↔ j = k ∨ j ∈ names l
  | [], k, j, f => by simp [put, names]
  | p :: l, k, j, f => by
    unfold put
    split
    · rename_i e; simp [names, e]
    · split
      · have := names_put l k j f
        simp only [names, List.map_cons, List.mem_cons] at this ⊢
        rw [this]
        constructor
        · rintro (h | h | h)
          · exact .inr (.inl h)
          · exact .inl h
          · exact .inr (.inr h)
        · rintro (h | h | h)
          · exact .inr (.inl h)
          · exact .inl h
          · exact .inr (.inr h)
      · simp [names]
theorem sorted_put : ∀ (l : FL) (k : N) (f : F), Sorted l → Sorted (put l k f)
  | [], k, f, _ => by simp [put, Sorted, names]
  | p :: l, k, f, h => by
    unfold put
    by_cases e : p.1 = k
    · rw [if_pos e]
      refine List.pairwise_cons.2 ⟨fun j hj => ?_, h.tail⟩
      rw [← e]
      exact h.head j hj
    · rw [if_neg e]
      by_cases hl : p.1 ≤ k
      · rw [if_pos hl]
        refine List.pairwise_cons.2 ⟨fun j hj => ?_, sorted_put l k f h.tail⟩
        rcases (names_put l k j f).1 hj with rfl | hj
        · exact ⟨hl, e⟩
        · exact h.head j hj
      · rw [if_neg hl]
        have hk : k ≤ p.1 := (List.le_total p.1 k).resolve_left hl
        refine List.pairwise_cons.2 ⟨fun j hj => ?_, h⟩
        rcases List.mem_cons.1 hj with rfl | hj
        · exact ⟨hk, fun h2 => e h2.symm⟩
        · have := h.head j hj
          exact ⟨List.le_trans hk this.1, fun h2 => by subst h2; exact hl this.1⟩
theorem look_del : ∀ (l : FL) (k j : N), Sorted l → look (del l k) j = if k = j then none else look l j
  | [], k, j, _ => by simp [del, look]
  | p :: l, k, j, h => by
    unfold del
    by_cases e : p.1 = k
    · rw [if_pos e]
      by_cases ej : k = j
      · rw [if_pos ej]
        refine look_none (fun hm => ?_)
        exact (h.head j hm).2 (e.trans ej)
      · rw [if_neg ej]
        conv => rhs; unfold look
        rw [if_neg (fun h2 => ej (e.symm.trans h2))]
    · rw [if_neg e]
      unfold look
      by_cases ej : p.1 = j
      · rw [if_pos ej, if_pos ej, if_neg (fun h2 => e (ej.trans h2.symm))]
      · rw [if_neg ej, if_neg ej, look_del l k j h.tail]
theorem names_del : ∀ (l : FL) (k j : N), j ∈ names (del l k) → j ∈ names l
  | [], k, j, h => h
  | p :: l, k, j, h => by
    unfold del at h
    split at h
    · exact List.mem_cons_of_mem _ h
    · rcases List.mem_cons.1 h with rfl | h
      · exact List.mem_cons_self
      · exact List.mem_cons_of_mem _ (names_del l k j h)
theorem sorted_del : ∀ (l : FL) (k : N), Sorted l → Sorted (del l k)
  | [], _, h => h
  | p :: l, k, h => by
    unfold del
    split
    · exact h.tail
    · exact List.pairwise_cons.2 ⟨fun j hj => h.head j (names_del l k j hj), sorted_del l k h.tail⟩
theorem length_put : ∀ (l : FL) (k : N) (f : F), (put l k f).length ≤ l.length + 1
  | [], _, _ => by simp [put]
  | p :: l, k, f => by
    unfold put
    split
    · simp
    · split
      · have := length_put l k f; simp; omega
      · simp
theorem length_del : ∀ (l : FL) (k : N), (del l k).length ≤ l.length
  | [], _ => Nat.le_refl _
  | p :: l, k => by
    unfold del
    split
    · simp
    · have := length_del l k; simp; omega
def sz : Option F → Nat
  | none => 0
  | some f => f.1.size
theorem used_put : ∀ (l : FL) (k : N) (f : F), Sorted l → used (put l k f) + sz (look l k) = used l + f.1.size
  | [], k, f, _ => by simp [put, used, look, sz]
  | p :: l, k, f, h => by
    unfold put look
    by_cases e : p.1 = k
    · rw [if_pos e, if_pos e]; simp only [used, sz]; omega
    · rw [if_neg e, if_neg e]
      by_cases hl : p.1 ≤ k
      · rw [if_pos hl]; have := used_put l k f h.tail; simp only [used]; omega
      · rw [if_neg hl]
        have : look l k = none := look_none (fun hm => hl (h.head k hm).1)
        rw [this]; simp only [used, sz]; omega
theorem used_del : ∀ (l : FL) (k : N), Sorted l → used (del l k) + sz (look l k) = used l
  | [], k, _ => by simp [del, used, look, sz]
  | p :: l, k, h => by
    unfold del look
    by_cases e : p.1 = k
    · rw [if_pos e, if_pos e]; simp only [used, sz]; omega
    · rw [if_neg e, if_neg e]; have := used_del l k h.tail; simp only [used]; omega
theorem mem_put : ∀ (l : FL) (k : N) (f : F) (p : N × F), p ∈ put l k f → p = (k, f) ∨ p ∈ l
  | [], _, _, p, h => by simp [put] at h; exact .inl h
  | q :: l, k, f, p, h => by
    unfold put at h
    split at h
    · rcases List.mem_cons.1 h with h | h
      · exact .inl h
      · exact .inr (List.mem_cons_of_mem _ h)
    · split at h
      · rcases List.mem_cons.1 h with h | h
        · exact .inr (h ▸ List.mem_cons_self)
        · rcases mem_put l k f p h with h | h
          · exact .inl h
          · exact .inr (List.mem_cons_of_mem _ h)
      · rcases List.mem_cons.1 h with h | h
        · exact .inl h
        · exact .inr h
theorem mem_del : ∀ (l : FL) (k : N) (p : N × F), p ∈ del l k → p ∈ l
  | [], _, _, h => h
  | q :: l, k, p, h => by
    unfold del at h
    split at h
    · exact List.mem_cons_of_mem _ h
    · rcases List.mem_cons.1 h with h | h
      · exact h ▸ List.mem_cons_self
      · exact List.mem_cons_of_mem _ (mem_del l k p h)
theorem sz_le : ∀ (l : FL) (k : N), sz (look l k) ≤ used l
  | [], k => by simp [look, sz]
  | p :: l, k => by
    unfold look
    split
    · simp only [sz, used]; omega
    · have := sz_le l k; simp only [used]; omega
/-- two sorted lists of the same names and files are one -/
theorem ext : ∀ {l l' : FL}, Sorted l → Sorted l' → (∀ k, look l k = look l' k) → l = l'
  | [], [], _, _, _ => rfl
  | [], p :: l', _, _, h => by have := h p.1; simp [look] at this
  | p :: l, [], _, _, h => by have := h p.1; simp [look] at this
  | p :: l, q :: l', hs, hs', h => by
    have e : p.1 = q.1 := by
      have h1 : q.1 ∈ names (p :: l) := look_names.1 (by rw [h]; simp [look])
      have h2 : p.1 ∈ names (q :: l') := look_names.1 (by rw [← h]; simp [look])
      rcases List.mem_cons.1 h1 with h1 | h1
      · exact h1.symm
      · rcases List.mem_cons.1 h2 with h2 | h2
        · exact h2
        · exact List.le_antisymm (hs.head _ h1).1 (hs'.head _ h2).1
    have e2 : p.2 = q.2 := by have := h p.1; simp only [look, e, if_true] at this; exact Option.some.inj this
    have e3 : p = q := by cases p; cases q; simp_all
    subst e3
    congr 1
    refine ext hs.tail hs'.tail (fun k => ?_)
    have := h k
    unfold look at this
    by_cases ek : p.1 = k
    · rw [look_none (fun hm => (hs.head k hm).2 ek), look_none (fun hm => (hs'.head k hm).2 ek)]
    · rwa [if_neg ek, if_neg ek] at this

/-- the disk -/
structure D where
  room : Int
  fl : FL
  off : Bool
  left : Int
  done : Int

def new (room : Int) : D := ⟨max room 0, [], false, 0, 0⟩
def bad (n : N) : Bool := n.length == 0 || decide (40 < n.length)
/-- may: of one name -/
def may1 (d : D) (there : Bool) (n : N) : Int :=
  if d.off then 14 else if bad n then 1 else if there && (look d.fl n).isNone then 12 else 0
def may2 (d : D) (n m : N) : Int :=
  if d.off then 14 else if bad n || bad m then 1 else if (look d.fl n).isNone then 12 else 0
def step (d : D) : Int × D :=
  if d.left = 1 then (14, { d with off := true }) else (0, { d with left := max (d.left - 1) 0, done := d.done + 1 })
/-- then: an error, or a step and what is to be done -/
def thn (d : D) (e : Int) (f : FL → FL) : Int × D :=
  if e = 0 then (if (step d).1 = 0 then (0, { (step d).2 with fl := f (step d).2.fl }) else step d) else (e, d)
def getF (l : FL) (k : N) : F := (look l k).getD (⟨#[]⟩, 0)
def append (d : D) (n : N) (s : ByteArray) : Int × D :=
  let e := may1 d false n
  if e = 0 ∧ d.room - used d.fl < s.size then (15, d) else thn d e (fun l => put l n ((getF l n).1 ++ s, (getF l n).2))
def read (d : D) (n : N) : ByteArray × Int := if may1 d true n = 0 then ((getF d.fl n).1, 0) else (⟨#[]⟩, may1 d true n)
def sync (d : D) (n : N) : Int × D := thn d (may1 d true n) (fun l => put l n ((getF l n).1, (getF l n).1.size))
def rename (d : D) (n m : N) : Int × D := thn d (may2 d n m) (fun l => put (del l n) m (getF l n))
def remove (d : D) (n : N) : Int × D := thn d (may1 d true n) (fun l => del l n)
def cut (d : D) (n : N) (k : Int) : Int × D :=
  let e := may1 d true n
  if e = 0 ∧ (k < 0 ∨ ((getF d.fl n).1.size : Int) < k) then (1, d) else thn d e (fun l => put l n ((getF l n).1.extract 0 k.toNat, min (getF l n).2 k.toNat))
def arm (d : D) (k : Int) : D := { d with left := min (max k 0) 4611686018427387904 + 1 }
def limit (d : D) (k : Int) : D := { d with room := max k 0 }

def pick : List Int → Int × List Int
  | [] => (0, [])
  | p :: ps => (p, ps)
def flip (b : ByteArray) : ByteArray := b.set! (b.size - 1) (255 - b.get! (b.size - 1))
def fold (p : Int) : Int := if p < 0 then -(p + 1) else p
def tear (f : F) (ps : List Int) : F × List Int :=
  let n := (fold (pick ps).1 % ((f.1.size - f.2 + 1 : Nat) : Int)).toNat
  let b := f.1.extract 0 (f.2 + n)
  if 0 < n then
    let q := pick (pick ps).2
    if q.1 % 2 = 1 then ((flip b, b.size), q.2) else ((b, b.size), q.2)
  else ((b, b.size), (pick ps).2)
def crashL : FL → List Int → FL
  | [], _ => []
  | p :: l, ps => (p.1, (tear p.2 ps).1) :: crashL l (tear p.2 ps).2
def crash (d : D) (ps : List Int) : D := { d with fl := crashL d.fl ps, off := false, left := 0 }

theorem names_crash : ∀ (l : FL) (ps : List Int), names (crashL l ps) = names l
  | [], _ => rfl
  | p :: l, ps => by simp only [crashL, names, List.map_cons]; congr 1; exact names_crash l _
end Go.Proofs.YtmglkhnojimnlaaGreat.DM

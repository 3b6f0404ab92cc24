/- What becomes of a cache's entries, as plain data. No program here. -/
import Derived.Test.YtibbfihnhlgkeaaCacheM
namespace Go.Proofs.Ytibbfihnhlgkeaa.CM
open NM (Bs bs ofBs)

theorem find_some {l : List It} {k : ByteArray} {x : It} (h : find l k = some x) : x ∈ l ∧ x.key = k := by
  unfold find at h
  exact ⟨List.mem_of_find?_eq_some h, by simpa using List.find?_some h⟩
theorem find_none {l : List It} {k : ByteArray} (h : find l k = none) : ∀ x ∈ l, x.key ≠ k := by
  unfold find at h
  rw [List.find?_eq_none] at h
  intro x hx e
  exact h x hx (by simpa using e)
theorem nodup_inj {α β : Type} {f : α → β} : ∀ {l : List α}, (l.map f).Nodup → ∀ {x y : α}, x ∈ l → y ∈ l → f x = f y → x = y
  | [], _, _, _, hx, _, _ => by cases hx
  | a :: l, h, x, y, hx, hy, e => by
    rw [List.map_cons, List.nodup_cons] at h
    rcases List.mem_cons.1 hx with rfl | hx'
    · rcases List.mem_cons.1 hy with rfl | hy'
      · rfl
      · exact absurd (e ▸ List.mem_map_of_mem hy') h.1
    · rcases List.mem_cons.1 hy with rfl | hy'
      · exact absurd (e.symm ▸ List.mem_map_of_mem hx') h.1
      · exact nodup_inj h.2 hx' hy' e
theorem find_of {l : List It} {x : It} (hk : (l.map It.key).Nodup) (hx : x ∈ l) : find l x.key = some x := by
  cases h : find l x.key with
  | none => exact absurd rfl (find_none h x hx)
  | some y =>
    obtain ⟨h1, h2⟩ := find_some h
    rw [nodup_inj hk h1 hx h2]
theorem place_lt {l : List It} {x : It} (hx : x ∈ l) : place l x.g < l.length := by
  unfold place
  exact List.findIdx_lt_length_of_exists ⟨x, hx, by simp⟩
theorem place_at {l : List It} {x : It} (hg : (l.map It.g).Nodup) (hx : x ∈ l) : l[place l x.g]'(place_lt hx) = x := by
  have h := List.findIdx_getElem (xs := l) (p := fun y : It => y.g == x.g) (w := place_lt hx)
  have h2 : (l[place l x.g]'(place_lt hx)).g = x.g := eq_of_beq h
  exact nodup_inj hg (List.getElem_mem _) hx h2
theorem place_of {l : List It} (hg : (l.map It.g).Nodup) {i : Nat} (hi : i < l.length) : place l l[i].g = i := by
  have hm : l[i] ∈ l := List.getElem_mem hi
  have h1 := place_at hg hm
  have h2 : (l.map It.g)[place l l[i].g]'(by simpa using place_lt hm) = (l.map It.g)[i]'(by simpa using hi) := by simp [h1]
  exact (List.getElem_inj hg).1 h2
theorem dropG_perm {l : List It} {x : It} (hg : (l.map It.g).Nodup) (hx : x ∈ l) : (x :: dropG l x.g).Perm l := by
  have h := remove_perm l (place l x.g) (place_lt hx)
  rw [place_at hg hx] at h
  exact h
theorem dropG_length {l : List It} (g : Nat) : (dropG l g).length = l.length - 1 := remove_length _ _
theorem without_mem {l : List It} (hg : (l.map It.g).Nodup) (hk : (l.map It.key).Nodup) (k : ByteArray) (y : It) : y ∈ without l k ↔ y ∈ l ∧ y.key ≠ k := by
  unfold without
  cases h : find l k with
  | none => exact ⟨fun hy => ⟨hy, find_none h y hy⟩, fun hy => hy.1⟩
  | some x =>
    obtain ⟨h1, h2⟩ := find_some h
    have hp := dropG_perm hg h1
    have hn : ((x :: dropG l x.g).map It.key).Nodup := (hp.map _).nodup_iff.2 hk
    rw [List.map_cons, List.nodup_cons] at hn
    constructor
    · intro hy
      refine ⟨hp.subset (List.mem_cons_of_mem _ hy), fun e => hn.1 ?_⟩
      rw [h2, ← e]
      exact List.mem_map_of_mem hy
    · rintro ⟨hy, hne⟩
      rcases List.mem_cons.1 (hp.symm.subset hy) with rfl | h3
      · exact absurd h2 hne
      · exact h3
theorem without_perm {l : List It} (hg : (l.map It.g).Nodup) (k : ByteArray) : ∃ r, (r ++ without l k).Perm l := by
  unfold without
  cases h : find l k with
  | none => exact ⟨[], List.Perm.refl _⟩
  | some x => exact ⟨[x], dropG_perm hg (find_some h).1⟩
theorem expire_cons (f : Nat) (x : It) (t : List It) (now : Int) : expire (f + 1) (x :: t) now = if x.e.til < now then ((expire f (remove (x :: t) 0) now).1, (expire f (remove (x :: t) 0) now).2 + 1) else (x :: t, 0) := rfl
theorem expire_perm : ∀ (f : Nat) (l : List It) (now : Int), ∃ r, (r ++ (expire f l now).1).Perm l ∧ r.length = (expire f l now).2 ∧ ∀ x ∈ r, x.e.til < now
  | 0, l, _ => ⟨[], List.Perm.refl _, rfl, by simp⟩
  | f + 1, [], _ => ⟨[], List.Perm.refl _, rfl, by simp⟩
  | f + 1, x :: t, now => by
    rw [expire_cons]
    split
    · rename_i hs
      obtain ⟨r, h1, h2, h3⟩ := expire_perm f (remove (x :: t) 0) now
      have h4 := remove_perm (x :: t) 0 (by simp)
      refine ⟨x :: r, ?_, by simp [h2], ?_⟩
      · exact (List.Perm.cons x h1).trans h4
      · intro y hy
        rcases List.mem_cons.1 hy with rfl | hy
        · exact hs
        · exact h3 y hy
    · exact ⟨[], List.Perm.refl _, rfl, by simp⟩
theorem expire_none {l : List It} {now : Int} (h : ∀ x ∈ l, now ≤ x.e.til) (f : Nat) : expire f l now = (l, 0) := by
  cases f with
  | zero => rfl
  | succ f =>
    cases l with
    | nil => rfl
    | cons x t =>
      rw [expire_cons, if_neg (by have := h x (by simp); omega)]
theorem oldF_spec (l : List It) : ∀ k, k < l.length → oldF l k ≤ k ∧ ∀ i, i ≤ k → l[oldF l k]!.used ≤ l[i]!.used
  | 0, _ => ⟨Nat.le_refl _, fun i hi => by rw [Nat.le_zero.1 hi]; exact Int.le_refl _⟩
  | k + 1, h => by
    obtain ⟨h1, h2⟩ := oldF_spec l k (by omega)
    show (if l[k + 1]!.used < l[oldF l k]!.used then k + 1 else oldF l k) ≤ k + 1 ∧ ∀ i, i ≤ k + 1 → l[if l[k + 1]!.used < l[oldF l k]!.used then k + 1 else oldF l k]!.used ≤ l[i]!.used
    split
    · rename_i hlt
      refine ⟨Nat.le_refl _, fun i hi => ?_⟩
      rcases Nat.lt_or_ge i (k + 1) with h3 | h3
      · have := h2 i (by omega); omega
      · rw [show i = k + 1 by omega]; exact Int.le_refl _
    · rename_i hlt
      refine ⟨by omega, fun i hi => ?_⟩
      rcases Nat.lt_or_ge i (k + 1) with h3 | h3
      · exact h2 i (by omega)
      · rw [show i = k + 1 by omega]; omega
theorem old_lt {l : List It} (h : 0 < l.length) : old l < l.length := by
  have := (oldF_spec l (l.length - 1) (by omega)).1
  unfold old
  omega
theorem old_least {l : List It} (h : 0 < l.length) : ∀ y ∈ l, (l[old l]'(old_lt h)).used ≤ y.used := by
  intro y hy
  obtain ⟨i, hi, rfl⟩ := List.mem_iff_getElem.1 hy
  have := (oldF_spec l (l.length - 1) (by omega)).2 i (by omega)
  rw [getElem!_pos l i hi] at this
  change l[old l]!.used ≤ _ at this
  rwa [getElem!_pos l (old l) (old_lt h)] at this
theorem trim_perm (m : Int) (hm : 0 ≤ m) (l : List It) (now : Int) : ∃ r, (r ++ trim m l now).Perm l := by
  unfold trim
  obtain ⟨r, h1, _, _⟩ := expire_perm l.length l now
  have key : ∃ r, (r ++ (if m < l.length then (expire l.length l now).1 else l)).Perm l := by
    split
    · exact ⟨r, h1⟩
    · exact ⟨[], List.Perm.refl _⟩
  generalize (if m < l.length then (expire l.length l now).1 else l) = l1 at key ⊢
  obtain ⟨r1, h2⟩ := key
  show ∃ r, (r ++ (if m < (l1.length : Int) then remove l1 (old l1) else l1)).Perm l
  split
  · rename_i hlt
    have hpos : 0 < l1.length := by omega
    refine ⟨r1 ++ [l1[old l1]'(old_lt hpos)], ?_⟩
    rw [List.append_assoc]
    exact (List.Perm.append_left r1 (remove_perm l1 (old l1) (old_lt hpos))).trans h2
  · exact ⟨r1, h2⟩
theorem trim_length (m : Int) (hm : 0 ≤ m) (l : List It) (now : Int) (h : (l.length : Int) ≤ m + 1) : ((trim m l now).length : Int) ≤ m := by
  unfold trim
  have key : (if m < l.length then (expire l.length l now).1 else l).length ≤ l.length := by
    split
    · obtain ⟨r, h1, _, _⟩ := expire_perm l.length l now
      have := h1.length_eq
      rw [List.length_append] at this
      omega
    · exact Nat.le_refl _
  generalize (if m < l.length then (expire l.length l now).1 else l) = l1 at key ⊢
  show ((if m < (l1.length : Int) then remove l1 (old l1) else l1).length : Int) ≤ m
  split
  · rw [remove_length]; omega
  · omega
/-- an entry stays that is not stale, and not the one that was used longest ago -/
theorem trim_stays (m : Int) (hm : 1 ≤ m) (l : List It) (now : Int) (hu : (l.map It.used).Nodup) (y : It) (hy : y ∈ l) (ht : now ≤ y.e.til)
    (ho : ∀ (l1 r : List It), (r ++ l1).Perm l → y ∈ l1 → m < (l1.length : Int) → ∃ z ∈ l1, z.used < y.used) : y ∈ trim m l now := by
  unfold trim
  obtain ⟨r, h1, _, h3⟩ := expire_perm l.length l now
  have key : ∃ r, (r ++ (if m < l.length then (expire l.length l now).1 else l)).Perm l ∧ y ∈ (if m < l.length then (expire l.length l now).1 else l) := by
    split
    · refine ⟨r, h1, ?_⟩
      rcases List.mem_append.1 (h1.symm.subset hy) with h | h
      · have := h3 y h; omega
      · exact h
    · exact ⟨[], List.Perm.refl _, hy⟩
  generalize (if m < l.length then (expire l.length l now).1 else l) = l1 at key ⊢
  obtain ⟨r1, h2, hy1⟩ := key
  show y ∈ (if m < (l1.length : Int) then remove l1 (old l1) else l1)
  split
  · rename_i hlt
    have hpos : 0 < l1.length := by omega
    obtain ⟨z, hz, hlt2⟩ := ho l1 r1 h2 hy1 hlt
    have hle := old_least hpos z hz
    rcases List.mem_cons.1 ((remove_perm l1 (old l1) (old_lt hpos)).symm.subset hy1) with h | h
    · rw [← h] at hle; omega
    · exact h
  · exact hy1

structure Inv (c : C) : Prop where
  keys : (c.h.map It.key).Nodup
  gs : (c.h.map It.g).Nodup
  useds : (c.h.map It.used).Nodup
  le : ∀ x ∈ c.h, 1 ≤ x.used ∧ x.used ≤ c.uses
  len : (c.h.length : Int) ≤ room c
  key : ∀ x ∈ c.h, x.key = key x.e ∧ check x.e = 0
theorem room_pos (c : C) : 1 ≤ room c := by unfold room; omega
/-- nodup of what is left -/
theorem nodup_rest {β : Type} {f : It → β} {r l1 l : List It} (h : (r ++ l1).Perm l) (hn : (l.map f).Nodup) : (l1.map f).Nodup := by
  have := (h.map f).nodup_iff.2 hn
  rw [List.map_append] at this
  exact (List.nodup_append.1 this).2.1
theorem mem_rest {r l1 l : List It} (h : (r ++ l1).Perm l) {x : It} (hx : x ∈ l1) : x ∈ l := h.subset (List.mem_append_right _ hx)
section
variable {c : C} (I : Inv c) (x : It) (now : Int)
include I
/-- the entries with the new one, ahead of the trim -/
theorem Inv.with_new (hg : ∀ y ∈ c.h, y.g ≠ x.g) (hu : 0 ≤ c.uses) : ∀ l, l = push (without c.h x.key) { x with used := c.uses + 1 } →
    (l.map It.key).Nodup ∧ (l.map It.g).Nodup ∧ (l.map It.used).Nodup ∧ (∀ y, y ∈ l ↔ y = { x with used := c.uses + 1 } ∨ (y ∈ c.h ∧ y.key ≠ x.key)) ∧ (l.length : Int) ≤ room c + 1 := by
  rintro l rfl
  have hp := push_perm (without c.h x.key) { x with used := c.uses + 1 }
  obtain ⟨r, hr⟩ := without_perm I.gs x.key
  have hm := without_mem I.gs I.keys x.key
  refine ⟨?_, ?_, ?_, ?_, ?_⟩
  · refine (hp.map _).nodup_iff.2 ?_
    rw [List.map_cons, List.nodup_cons]
    refine ⟨fun h => ?_, nodup_rest hr I.keys⟩
    obtain ⟨y, hy, e⟩ := List.mem_map.1 h
    exact ((hm y).1 hy).2 e
  · refine (hp.map _).nodup_iff.2 ?_
    rw [List.map_cons, List.nodup_cons]
    refine ⟨fun h => ?_, nodup_rest hr I.gs⟩
    obtain ⟨y, hy, e⟩ := List.mem_map.1 h
    exact hg y (mem_rest hr hy) e
  · refine (hp.map _).nodup_iff.2 ?_
    rw [List.map_cons, List.nodup_cons]
    refine ⟨fun h => ?_, nodup_rest hr I.useds⟩
    obtain ⟨y, hy, e⟩ := List.mem_map.1 h
    have := (I.le y (mem_rest hr hy)).2
    change y.used = c.uses + 1 at e
    omega
  · intro y
    rw [hp.mem_iff, List.mem_cons, hm]
  · rw [push_length]
    have h1 := hr.length_eq
    rw [List.length_append] at h1
    have := I.len
    omega
theorem Inv.put (hg : ∀ y ∈ c.h, y.g ≠ x.g) (hu : 0 ≤ c.uses) (hk : x.key = CM.key x.e) (hc : check x.e = 0) : Inv (CM.put c x now) := by
  obtain ⟨h1, h2, h3, h4, h5⟩ := I.with_new x hg hu _ rfl
  obtain ⟨r, hr⟩ := trim_perm (room c) (by have := room_pos c; omega) (push (without c.h x.key) { x with used := c.uses + 1 }) now
  refine ⟨nodup_rest hr h1, nodup_rest hr h2, nodup_rest hr h3, fun y hy => ?_, trim_length _ (by have := room_pos c; omega) _ _ h5, fun y hy => ?_⟩
  · rcases (h4 y).1 (mem_rest hr hy) with rfl | ⟨h, _⟩
    · exact ⟨by show 1 ≤ c.uses + 1; omega, Int.le_refl _⟩
    · have := I.le y h
      exact ⟨this.1, by show y.used ≤ c.uses + 1; omega⟩
  · rcases (h4 y).1 (mem_rest hr hy) with rfl | ⟨h, _⟩
    · exact ⟨hk, hc⟩
    · exact I.key y h
theorem Inv.put_mem (hg : ∀ y ∈ c.h, y.g ≠ x.g) (hu : 0 ≤ c.uses) {y : It} (hy : y ∈ (CM.put c x now).h) : y = { x with used := c.uses + 1 } ∨ (y ∈ c.h ∧ y.key ≠ x.key) := by
  obtain ⟨h1, h2, h3, h4, h5⟩ := I.with_new x hg hu _ rfl
  obtain ⟨r, hr⟩ := trim_perm (room c) (by have := room_pos c; omega) (push (without c.h x.key) { x with used := c.uses + 1 }) now
  exact (h4 y).1 (mem_rest hr hy)
theorem Inv.put_new (hg : ∀ y ∈ c.h, y.g ≠ x.g) (hu : 0 ≤ c.uses) (ht : now ≤ x.e.til) : { x with used := c.uses + 1 } ∈ (CM.put c x now).h := by
  obtain ⟨h1, h2, h3, h4, h5⟩ := I.with_new x hg hu _ rfl
  refine trim_stays (room c) (room_pos c) _ now h3 _ ((h4 _).2 (.inl rfl)) ht (fun l1 r hp hy hlt => ?_)
  have hn := nodup_rest hp h3
  have hlen : 2 ≤ l1.length := by have := room_pos c; omega
  obtain ⟨z, hz, hne⟩ : ∃ z ∈ l1, z ≠ { x with used := c.uses + 1 } := by
    match l1, hlen, hn with
    | a :: b :: t, _, hn =>
      by_cases e : a = { x with used := c.uses + 1 }
      · refine ⟨b, by simp, fun e2 => ?_⟩
        rw [List.map_cons, List.nodup_cons, e, ← e2] at hn
        exact hn.1 (by simp)
      · exact ⟨a, by simp, e⟩
  refine ⟨z, hz, ?_⟩
  rcases (h4 z).1 (mem_rest hp hz) with e | ⟨h, _⟩
  · exact absurd e hne
  · have := (I.le z h).2
    show z.used < c.uses + 1
    omega
/-- what was used last stays, if there is room for two -/
theorem Inv.put_stays (hg : ∀ y ∈ c.h, y.g ≠ x.g) (hu : 0 ≤ c.uses) (h2 : 2 ≤ room c) {y : It} (hy : y ∈ c.h) (hne : y.key ≠ x.key) (ht : now ≤ y.e.til) (hlast : ∀ z ∈ c.h, z.used ≤ y.used) : y ∈ (CM.put c x now).h := by
  obtain ⟨h1, h2', h3, h4, h5⟩ := I.with_new x hg hu _ rfl
  refine trim_stays (room c) (room_pos c) _ now h3 _ ((h4 _).2 (.inr ⟨hy, hne⟩)) ht (fun l1 r hp hy1 hlt => ?_)
  have hn := nodup_rest hp h3
  have hlen : 3 ≤ l1.length := by omega
  obtain ⟨z, hz, hz1, hz2⟩ : ∃ z ∈ l1, z.used ≠ c.uses + 1 ∧ z.used ≠ y.used := by
    match l1, hlen, hn with
    | a :: b :: d :: t, _, hn =>
      simp only [List.map_cons, List.nodup_cons, List.mem_cons, not_or] at hn
      by_cases ea : a.used ≠ c.uses + 1 ∧ a.used ≠ y.used
      · exact ⟨a, by simp, ea⟩
      · by_cases eb : b.used ≠ c.uses + 1 ∧ b.used ≠ y.used
        · exact ⟨b, by simp, eb⟩
        · exact ⟨d, by simp, by omega⟩
  refine ⟨z, hz, ?_⟩
  rcases (h4 z).1 (mem_rest hp hz) with e | ⟨h, _⟩
  · rw [e] at hz1; exact absurd rfl hz1
  · have := hlast z h; omega
end
theorem tell_some {c : C} {k : ByteArray} {now : Int} {x : It} (h : tell c k now = some x) : x ∈ c.h ∧ x.key = k ∧ now ≤ x.e.til := by
  unfold tell at h
  rw [Option.filter_eq_some_iff] at h
  obtain ⟨h1, h2⟩ := h
  obtain ⟨h3, h4⟩ := find_some h1
  exact ⟨h3, h4, by simpa using h2⟩
theorem tell_of {c : C} (I : Inv c) {x : It} (hx : x ∈ c.h) {now : Int} (ht : now ≤ x.e.til) : tell c x.key now = some x := by
  unfold tell
  rw [find_of I.keys hx]
  simp [Option.filter, ht]
theorem tell_none {c : C} {k : ByteArray} {now : Int} (h : ∀ x ∈ c.h, x.key = k → x.e.til < now) : tell c k now = none := by
  cases e : tell c k now with
  | none => rfl
  | some x =>
    obtain ⟨h1, h2, h3⟩ := tell_some e
    have := h x h1 h2
    omega
theorem used_mem {c : C} {g : Nat} {y : It} (hy : y ∈ (used c g).h) : ∃ x ∈ c.h, y = if x.g = g then { x with used := c.uses + 1 } else x := by
  obtain ⟨x, hx, e⟩ := List.mem_map.1 hy
  exact ⟨x, hx, e.symm⟩
theorem Inv.used {c : C} (I : Inv c) (g : Nat) (hu : 0 ≤ c.uses) : Inv (used c g) := by
  have hk : (CM.used c g).h.map It.key = c.h.map It.key := by
    unfold CM.used
    simp only [List.map_map]
    exact List.map_congr_left (fun x _ => by simp only [Function.comp]; split <;> rfl)
  have hgs : (CM.used c g).h.map It.g = c.h.map It.g := by
    unfold CM.used
    simp only [List.map_map]
    exact List.map_congr_left (fun x _ => by simp only [Function.comp]; split <;> rfl)
  refine ⟨by rw [hk]; exact I.keys, by rw [hgs]; exact I.gs, ?_, fun y hy => ?_, ?_, fun y hy => ?_⟩
  · have hgen : ∀ l : List It, (∀ x ∈ l, x.used ≤ c.uses) → (l.map It.g).Nodup → (l.map It.used).Nodup → ((l.map (fun x => if x.g = g then { x with used := c.uses + 1 } else x)).map It.used).Nodup := by
      intro l
      induction l with
      | nil => intros; simp
      | cons a l ih =>
        intro h1 h2 h3
        simp only [List.map_cons, List.nodup_cons] at h2 h3 ⊢
        refine ⟨fun hm => ?_, ih (fun x hx => h1 x (by simp [hx])) h2.2 h3.2⟩
        obtain ⟨z, hz, e⟩ := List.mem_map.1 hm
        obtain ⟨y, hy, rfl⟩ := List.mem_map.1 hz
        have hya := h1 y (by simp [hy])
        have haa := h1 a (by simp)
        by_cases ea : a.g = g
        · by_cases ey : y.g = g
          · exact h2.1 (by rw [ea, ← ey]; exact List.mem_map_of_mem hy)
          · rw [if_pos ea, if_neg ey] at e
            change y.used = c.uses + 1 at e
            omega
        · by_cases ey : y.g = g
          · rw [if_neg ea, if_pos ey] at e
            change c.uses + 1 = a.used at e
            omega
          · rw [if_neg ea, if_neg ey] at e
            exact h3.1 (by rw [← e]; exact List.mem_map_of_mem hy)
    exact hgen c.h (fun x hx => (I.le x hx).2) I.gs I.useds
  · obtain ⟨x, hx, rfl⟩ := used_mem hy
    have := I.le x hx
    split
    · exact ⟨by show 1 ≤ c.uses + 1; omega, Int.le_refl _⟩
    · exact ⟨this.1, by show x.used ≤ c.uses + 1; omega⟩
  · show (((c.h.map _).length : Nat) : Int) ≤ _
    rw [List.length_map]
    exact I.len
  · obtain ⟨x, hx, rfl⟩ := used_mem hy
    split <;> exact I.key x hx
end Go.Proofs.Ytibbfihnhlgkeaa.CM

/- Memory words: blocks known whole, and what a call may have turned (Touch). -/
import Derived.WalkKit
import Derived.WalkLawsBesides
import Derived.WalkSpells
import Derived.BigQuiet
import Derived.Deep.QuietTactic
import Derived.Deep.Draws
import Derived.StillTailTactics
import Derived.Maps.OwnSet
import Derived.Maps.OwnOps
import Derived.Lib.Hide
namespace Go.Proofs.YtibbfihnhlgkeaaGreat
open Go.RowKit Go.Maps

theorem ret_int {k : IntKind} {a b : Int} (h : a = b) : Ending.returned (.int k a) = .returned (.int k b) := by rw [h]
theorem ret_bool {a b : Bool} (h : a = b) : Ending.returned (.bool a) = .returned (.bool b) := by rw [h]
theorem ret_str {a b : ByteArray} (h : a = b) : Ending.returned (.string a) = .returned (.string b) := by rw [h]
theorem wf64 {k : Int} (h0 : -9223372036854775808 ≤ k) (h1 : k ≤ 9223372036854775807) : (Lit.int .i64 k).wf = true := WalkArith.wf_i64 ⟨h0, h1⟩

theorem wf64_le {k : Int} (h : (Lit.int .i64 k).wf = true) : -9223372036854775808 ≤ k ∧ k ≤ 9223372036854775807 := by
  simp only [Lit.wf, Bool.and_eq_true, decide_eq_true_eq] at h
  have h2 : IntKind.i64.max = 9223372036854775807 := rfl
  have h3 : IntKind.i64.min = -9223372036854775808 := rfl
  omega

/-- block g holds just these cells -/
def Blk (w : World) (g : Nat) (t : TypeId) (cs : Array Value) : Prop := w.heap[g]? = some (.cells cs t (0, 0))

section
variable {w w' : World} {g : Nat} {t : TypeId} {cs : Array Value}
theorem lt_of_heap {o : Obj} (h : w.heap[g]? = some o) : g < w.heap.size := (Array.getElem?_eq_some_iff.1 h).1
theorem Blk.lt (h : Blk w g t cs) : g < w.heap.size := lt_of_heap h
theorem Blk.cell (h : Blk w g t cs) (i : Nat) : w.cell? ⟨g, i, none⟩ = cs[i]? := cell_of_row w g i cs t (0, 0) h
theorem Blk.frozen (h : Blk w g t cs) (i : Nat) : w.frozen? ⟨g, i, none⟩ = false := by
  unfold Blk at h
  simp [World.frozen?, h]
theorem Blk.new (w : World) (t : TypeId) (cs : Array Value) : Blk (w.alloc (.cells cs t)) w.heap.size t cs := (MapKept.heap_alloc w _).1
theorem Blk.new' (w : World) (t : TypeId) (cs : Array Value) {g : Nat} (hg : g = w.heap.size) : Blk (w.alloc (.cells cs t)) g t cs := hg ▸ Blk.new w t cs
theorem heap_old (w : World) (o : Obj) {k : Nat} (h : k < w.heap.size) : (w.alloc o).heap[k]? = w.heap[k]? := (MapKept.heap_alloc w o).2 k h
theorem Blk.alloc (h : Blk w g t cs) (o : Obj) : Blk (w.alloc o) g t cs := (heap_old w o h.lt).trans h
theorem Blk.drew (h : Blk w g t cs) : Blk w.drew g t cs := h
theorem Blk.drewN (h : Blk w g t cs) (n : Nat) : Blk (w.drewN n) g t cs := h
theorem heap_setCell_far (w : World) (a : Addr) (u : Value) {k : Nat} (h : k ≠ a.block) : (w.setCell a u).heap[k]? = w.heap[k]? := Below.heap_setCell w a u k h
theorem Blk.set_ (h : Blk w g t cs) (i : Nat) (u : Value) : Blk (w.setCell ⟨g, i, none⟩ u) g t (cs.setIfInBounds i u) := by
  unfold Blk at h ⊢
  simp [World.setCell, Array.getElem?_modify, h]
theorem Blk.far (h : Blk w g t cs) {p : Addr} (hp : g ≠ p.block) (u : Value) : Blk (w.setCell p u) g t cs := (heap_setCell_far w p u hp).trans h
theorem Blk.ne_map (h : Blk w g t cs) {b : Nat} {es : Array MapEntry} {c : Nat} (hb : w.heap[b]? = some (.map es c)) : g ≠ b := by
  rintro rfl
  unfold Blk at h
  rw [h] at hb
  cases hb
theorem Blk.ne_type (h : Blk w g t cs) {g' : Nat} {t' : TypeId} {cs' : Array Value} (h' : Blk w g' t' cs') (hne : t ≠ t') : g ≠ g' := by
  rintro rfl
  unfold Blk at h h'
  rw [h] at h'
  injection h' with h'
  injection h' with _ ht
  exact hne ht
end

/-- what a call may have turned: the blocks of S, and new ones. -/
structure Touch (S : List Nat) (w w' : World) : Prop where
  os : w'.os = w.os
  tape : w'.tape = w.tape
  output : w'.output = w.output
  size : w.heap.size ≤ w'.heap.size
  block : ∀ k, k < w.heap.size → k ∉ S → w'.heap[k]? = w.heap[k]?

section
variable {S S' : List Nat} {w w' w'' : World}
theorem Touch.refl (S : List Nat) (w : World) : Touch S w w := ⟨rfl, rfl, rfl, Nat.le_refl _, fun _ _ _ => rfl⟩
theorem Touch.drewN (S : List Nat) (w : World) (n : Nat) : Touch S w (w.drewN n) := ⟨rfl, rfl, rfl, Nat.le_refl _, fun _ _ _ => rfl⟩
theorem Touch.drew_ (h : Touch S w w') : Touch S w w'.drew := ⟨h.os, h.tape, h.output, h.size, h.block⟩
theorem Touch.drewN_ (h : Touch S w w') (n : Nat) : Touch S w (w'.drewN n) := ⟨h.os, h.tape, h.output, h.size, h.block⟩
/-- the second step may turn what the first one was let, and what was new behind the first. -/
theorem Touch.trans (h : Touch S w w') (h' : Touch S' w' w'') (hs : ∀ k ∈ S', k ∈ S ∨ w.heap.size ≤ k) : Touch S w w'' :=
  ⟨h'.os.trans h.os, h'.tape.trans h.tape, h'.output.trans h.output, Nat.le_trans h.size h'.size, fun k hk hn =>
    (h'.block k (Nat.lt_of_lt_of_le hk h.size) (fun hm => by rcases hs k hm with h1 | h1; exact hn h1; omega)).trans (h.block k hk hn)⟩
theorem Touch.mono (h : Touch S w w') (hs : ∀ k ∈ S, k ∈ S' ∨ w.heap.size ≤ k) : Touch S' w w' :=
  ⟨h.os, h.tape, h.output, h.size, fun k hk hn => h.block k hk (fun hm => by rcases hs k hm with h1 | h1; exact hn h1; omega)⟩
theorem Touch.alloc (h : Touch S w w') (o : Obj) : Touch S w (w'.alloc o) :=
  ⟨h.os, h.tape, h.output, Nat.le_trans h.size (by simp), fun k hk hn => (heap_old w' o (Nat.lt_of_lt_of_le hk h.size)).trans (h.block k hk hn)⟩
theorem Touch.setCell (h : Touch S w w') (a : Addr) (u : Value) (ha : a.block ∈ S ∨ w.heap.size ≤ a.block) : Touch S w (w'.setCell a u) :=
  ⟨h.os, h.tape, h.output, Nat.le_trans h.size (by simp), fun k hk hn => (heap_setCell_far w' a u (by rintro rfl; rcases ha with h1 | h1; exact hn h1; omega)).trans (h.block k hk hn)⟩
theorem Touch.of_grown {row : Option Nat} (h : w.grownBy w' row) : Touch row.toList w w' :=
  ⟨h.os, h.tape, h.output, h.size, fun k hk hn => h.block k hk (by rintro rfl; simp at hn)⟩
theorem Touch.of_below (h : Below w.heap.size w w') : Touch [] w w' := ⟨h.os, h.tape, h.output, h.size, fun k hk _ => h.block k hk⟩
theorem Touch.below (h : Touch S w w') {B : Nat} (hB : B ≤ w.heap.size) (hs : ∀ k ∈ S, B ≤ k) : Below B w w' :=
  ⟨h.os, h.tape, h.output, h.size, fun k hk => h.block k (Nat.lt_of_lt_of_le hk hB) (fun hm => by have := hs k hm; omega)⟩
theorem Touch.blk {g : Nat} {t : TypeId} {cs : Array Value} (h : Touch S w w') (hb : Blk w g t cs) (hn : g ∉ S) : Blk w' g t cs := (h.block g hb.lt hn).trans hb
theorem Touch.heap {g : Nat} {o : Obj} (h : Touch S w w') (hb : w.heap[g]? = some o) (hn : g ∉ S) : w'.heap[g]? = some o := (h.block g (lt_of_heap hb) hn).trans hb
end
end Go.Proofs.YtibbfihnhlgkeaaGreat

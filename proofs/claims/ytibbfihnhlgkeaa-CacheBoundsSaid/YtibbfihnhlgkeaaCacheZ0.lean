/- A cache in memory: a new map, a use counted, a new entry laid. -/
import Derived.Test.YtibbfihnhlgkeaaCacheY
namespace Go.Proofs.Ytibbfihnhlgkeaa
open Go.RowKit Go.Maps Go.WideMaps
open NM (Bs bs ofBs)
open CM (It C)

section
variable {w w' : World} {B : Nat} {mo : Option Nat} {v : Value} {m u : Int} {l : List It}
theorem K.reblk (h : K w B mo v m u l) (T : Touch [B] w w') {mo' : Option Nat} {m' u' : Int} (hb : Blk w' B 61 #[.int .i64 m', .map mo', v, .int .i64 u']) (hm : MapP w' mo' l) : K w' B mo' v m' u' l := by
  refine ⟨⟨hb, rfl, trow_touch h.hp.own T (fun k hk hm => ?_), fun i hi => T.blk (h.hp.items i hi) ?_, h.hp.gs⟩, hm, h.keys, fun x hx => trow_touch (h.recs x hx) T (fun k hk hm => ?_), h.ok, h.len⟩
  · obtain ⟨cur, h4⟩ := h.hp.ownBlk hk
    simp only [List.mem_cons, List.not_mem_nil, or_false] at hm
    subst hm
    exact h4.ne_type h.hp.blk (by decide) rfl
  · simp only [List.mem_cons, List.not_mem_nil, or_false]
    exact (h.hp.items i hi).ne_type h.hp.blk (by decide)
  · simp only [List.mem_cons, List.not_mem_nil, or_false] at hm
    subst hm
    exact h.own_ne hx hk (by unfold cfoot; simp)
theorem K.count (h : K w B mo v m u l) (u' : Int) : K (w.setCell ⟨B, 3, none⟩ (.int .i64 u')) B mo v m u' l := by
  have T : Touch [B] w (w.setCell ⟨B, 3, none⟩ (.int .i64 u')) := (Touch.refl _ w).setCell ⟨B, 3, none⟩ _ (.inl (by simp))
  refine h.reblk T (h.hp.blk.set_ 3 (.int .i64 u')) (h.map.touch T (fun k hk hm => ?_))
  simp only [List.mem_cons, List.not_mem_nil, or_false] at hm
  exact (h.map_ne hk).1 hm
theorem K.newmap (h : K w B none v m u l) : K ((w.alloc (.map #[] 0)).setCell ⟨B, 1, none⟩ (.map (some w.heap.size))) B (some w.heap.size) v m u l := by
  have T0 : Touch [B] w (w.alloc (.map #[] 0)) := (Touch.refl _ w).alloc _
  have T : Touch [B] w ((w.alloc (.map #[] 0)).setCell ⟨B, 1, none⟩ (.map (some w.heap.size))) := T0.setCell ⟨B, 1, none⟩ _ (.inl (by simp))
  have hl : l = [] := by
    rcases h.map with ⟨_, h⟩ | ⟨_, _, e, _⟩
    · exact h
    · cases e
  subst hl
  refine h.reblk T ((h.hp.blk.alloc _).set_ 1 (.map (some w.heap.size))) ?_
  have hown := World.ownsMap_made (H := Unit) w Try.prog 9 RP
  have hM : MapP (w.alloc (.map #[] 0)) (some w.heap.size) [] := .inr ⟨w.heap.size, .map [], rfl, hown, ⟨fun k => rfl, fun k x z e => by simp [CM.find] at e, rfl⟩⟩
  refine hM.touch (S := [B]) ((Touch.refl _ _).setCell ⟨B, 1, none⟩ _ (.inl (by simp))) (fun k hk hm => ?_)
  injection hk with hk
  simp only [List.mem_cons, List.not_mem_nil, or_false] at hm
  have := h.hp.blk.lt
  omega
end
theorem find_new {l : List It} {k : ByteArray} (h : ∀ y ∈ l, y.key ≠ k) : CM.find l k = none := by
  cases e : CM.find l k with
  | none => rfl
  | some x => exact absurd (CM.find_some e).2 (h x (CM.find_some e).1)
end Go.Proofs.Ytibbfihnhlgkeaa

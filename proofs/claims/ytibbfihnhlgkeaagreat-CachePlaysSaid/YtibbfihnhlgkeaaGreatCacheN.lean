/- copied: an entry that shares nothing. -/
import Derived.Test.YtibbfihnhlgkeaaGreatCacheS
import Derived.Great.BuildSlice
import Derived.Deep.MidRow
import Derived.Handy
namespace Go.Proofs.YtibbfihnhlgkeaaGreat
open Go.RowKit Go.Maps Go.Shelf
open NM (Bs bs ofBs)

theorem Blk.row {w : World} {g : Nat} {t : TypeId} {cs : Array Value} (h : Blk w g t cs) (cells : Array Value) : Blk (w.setRow g cells) g t cells := by
  unfold Blk at h ⊢
  simp [World.setRow, Array.getElem?_modify, h]
theorem Touch.row {S : List Nat} {w w' : World} (h : Touch S w w') (g : Nat) (cells : Array Value) (hg : g ∈ S ∨ w.heap.size ≤ g) : Touch S w (w'.setRow g cells) :=
  h.trans (S' := [g]) ⟨rfl, rfl, rfl, by simp, fun k _ hk => by
    simp only [List.mem_cons, List.not_mem_nil, or_false] at hk
    simp [World.setRow, Array.getElem?_modify, Ne.symm hk]⟩ (fun k hk => by simp at hk; rw [hk]; exact hg)
theorem own_shape {w : World} {B size n : Nat} {e : TypeId} {v : Value} {xs : List Value} (h : w.ownsRow B e size v n xs) : ∃ a c, v = .slice a n c := by
  rcases h.2 with ⟨rfl, rfl⟩ | ⟨g, cap, cur, rfl, _⟩
  · exact ⟨_, _, rfl⟩
  · exact ⟨_, _, rfl⟩
theorem entV_cells (e : CM.E) (a : Option Addr) (n c : Nat) : (entV e (.slice a n c)).all (·.oneCell') = true := by
  unfold entV
  simp
  exact ⟨rfl, rfl, rfl, rfl, rfl, rfl, rfl, rfl, rfl⟩
abbrev zeroE : Array Value := #[.int .i64 0, .string ⟨#[]⟩, .int .u16 0, .int .u16 0, .slice none 0 0, .int .i64 0, .int .i64 0, .int .i64 0, .int .i64 0]
set_option maxRecDepth 10000 in
set_option maxHeartbeats 1000000 in
theorem copied_any (w : World) (e : CM.E) (rv : Value) (h : RecsAt w rv e.recs) (hl : e.recs.length ≤ 1000) : Calls Tryz.prog 39 #[.agg (entV e rv)] w fun e1 w' => ∃ v, e1 = .returned (.agg (entV e v)) ∧ w'.ownsRow w.heap.size 60 5 v e.recs.length (flat e.recs) ∧ Touch [] w w' := by
  have HB1 := Lib.hid ((Blk.new w 31 (entV e rv)).alloc (.cells zeroE 31))
  have HB2 := Lib.hid (Blk.new' (w.alloc (.cells (entV e rv) 31)) 31 zeroE (g := w.heap.size + 1) (by simp))
  have HT := Lib.hid (((Touch.refl [] w).alloc (.cells (entV e rv) 31)).alloc (.cells zeroE 31))
  have HC := Lib.hid (clone_own _ rv e.recs (h.touch0 HT.out) hl)
  clear h hl
  show Calls Tryz.prog 39 #[.agg #[.int .i64 e.kind, .string e.name, .int .u16 e.type, .int .u16 e.cls, rv, .int .i64 e.til, .int .i64 e.rank, .int .i64 e.epoch, .int .i64 e.src]] w fun e1 w' => ∃ v, e1 = .returned (.agg (entV e v)) ∧ w'.ownsRow w.heap.size 60 5 v e.recs.length (flat e.recs) ∧ Touch [] w w'
  go_enter Tryz.func39, Tryz.ntmps39
  go_wp2_with fail
  refine HC.out.mono ?_
  rintro e1 w1 ⟨v, rfl, hown, T1⟩
  obtain ⟨a, c, rfl⟩ := own_shape hown
  have b1 := T1.blk HB1.out (by simp)
  have b2 := T1.blk HB2.out (by simp)
  have HT1 := Lib.hid (HT.out.trans T1 (by simp))
  have c4 : w1.cell? ⟨w.heap.size, 4, none⟩ = some rv := b1.cell 4
  have f4 : w1.frozen? ⟨w.heap.size, 4, none⟩ = false := b1.frozen 4
  have g1 := b1.set_ 4 (.slice a e.recs.length c)
  have g2 := b2.far (p := ⟨w.heap.size, 4, none⟩) (by simp) (.slice a e.recs.length c)
  have G := Lib.hid (And.intro g1 g2)
  have HO := Lib.hid hown
  clear b1 b2 g1 g2 T1 hown
  go_wp2_with (first
    | (refine wpList_load_row rfl 31 (.tmp 1) rfl w.heap.size rfl 31 (entV e (.slice a e.recs.length c)) (0, 0) _ G.out.1 Tryz.underlying31 rfl (by kernel_rfl) ?_)
    | (refine wpList_store_rowTo rfl 31 (.tmp 2) (.tmp 7) rfl rfl (w.heap.size + 1) (entV e (.slice a e.recs.length c)) rfl rfl 31 zeroE G.out.2 (by kernel_rfl) (by kernel_rfl) (entV_cells _ _ _ _) ?_))
  refine bodyPost_ret (results_cell_row rfl _ _ (w.heap.size + 1) 31 (entV e (.slice a e.recs.length c)) (0, 0) _ rfl (G.out.2.row _) Tryz.underlying31 rfl (by kernel_rfl)) rfl ?_
  have t : Touch [w.heap.size, w.heap.size + 1] w1 ((w1.setCell ⟨w.heap.size, 4, none⟩ (.slice a e.recs.length c)).setRow (w.heap.size + 1) (entV e (.slice a e.recs.length c))) :=
    ((Touch.refl _ w1).setCell ⟨w.heap.size, 4, none⟩ _ (.inl (by simp))).row _ _ (.inl (by simp))
  refine ⟨_, rfl, trow_touch (trow_base HO.out (by simp; omega)) t (fun k hk hm => ?_), HT1.out.trans t (fun k hk => .inr (by simp at hk; omega))⟩
  have := (HO.out.lt _ hk).1
  simp at hm this
  omega
end Go.Proofs.YtibbfihnhlgkeaaGreat

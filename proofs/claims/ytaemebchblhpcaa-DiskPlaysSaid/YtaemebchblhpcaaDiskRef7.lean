/- Package fingerpostref09: Copy. -/
import Derived.Test.YtaemebchblhpcaaDiskRef5
import Derived.StillTailTactics
namespace Go.Proofs.Ytaemebchblhpcaa
open Go.RowKit Go.Maps Go.WideMaps
open DM (N F FL Sorted)

set_option maxRecDepth 10000 in
set_option maxHeartbeats 1600000 in
theorem rcopy_any (w : World) (B b n : Nat) (v : Value) (d : DM.D) (h : RefAt w B b v n d) (hn : n < 1099511627775) (hB : B ≤ w.heap.size) :
    Calls Try.prog 24 #[.pointer (some ⟨b, 0, none⟩)] w fun e w' => e = .returned (.pointer (some ⟨w.heap.size, 0, none⟩)) ∧ ∃ v', RefAt w' B w.heap.size v' n d ∧ Touch [] w w' := by
  obtain ⟨armed, left, hb, hl⟩ := h.blk
  obtain ⟨a, cap, hv, hcap, hmax, h0, hop⟩ := h.open
  subst hv
  have c0 : w.cell? ⟨b, 0, none⟩ = some (.int .i64 d.room) := hb.cell 0
  have c1 : w.cell? ⟨b, 1, none⟩ = some (.slice a d.fl.length cap) := hb.cell 1
  have c2 : w.cell? ⟨b, 2, none⟩ = some (.bool d.off) := hb.cell 2
  have c3 : w.cell? ⟨b, 3, none⟩ = some (.bool armed) := hb.cell 3
  have c4 : w.cell? ⟨b, 4, none⟩ = some (.int .i64 left) := hb.cell 4
  have c5 : w.cell? ⟨b, 5, none⟩ = some (.int .i64 d.done) := hb.cell 5
  have hlen := h.fit.len
  have hfl : d.fl.length < 1099511627775 := by omega
  obtain ⟨w1, hw1⟩ : ∃ w1, w1 = w.alloc (.cells #[.int .i64 d.room, .slice none 0 0, .bool d.off, .bool armed, .int .i64 left, .int .i64 d.done] 52) := ⟨_, rfl⟩
  have hN : Blk w1 w.heap.size 52 #[.int .i64 d.room, .slice none 0 0, .bool d.off, .bool armed, .int .i64 left, .int .i64 d.done] := hw1 ▸ Blk.new _ _ _
  have T1 : Touch [] w w1 := hw1 ▸ (Touch.refl [] w).alloc _
  have hs1 : w1.heap.size = w.heap.size + 1 := by rw [hw1]; simp
  have hsrc : ∀ ad, a = some ad → ad = ⟨ad.block, 0, none⟩ ∧ (∀ j u, (cellsL d.fl)[j]? = some u → w1.cell? ⟨ad.block, j, none⟩ = some u) := by
    intro ad ha
    obtain ⟨g, o, sp⟩ := ad
    obtain ⟨rfl, rfl, _, _, _, hcl⟩ := hop g o sp ha
    have hpc := part_cells hcl
    exact ⟨rfl, fun j u hj => T1.cell (hpc j u hj) (by simp)⟩
  have hends : ∀ (v3 : Value) (w3 : World), w3.ownsRow w1.heap.size 54 3 v3 d.fl.length (cellsL d.fl) → Touch [] w1 w3 →
      RefAt (w3.setCell ⟨w.heap.size, 1, none⟩ v3) B w.heap.size v3 n d ∧ Touch [] w (w3.setCell ⟨w.heap.size, 1, none⟩ v3) := by
    intro v3 w3 ho ht
    refine ⟨⟨⟨armed, left, (ht.blk hN (by simp)).set_ 1 v3, hl⟩, h.room, h.done, ?_, h.fit⟩, (T1.trans ht (by simp)).setCell _ _ (.inr (Nat.le_refl _))⟩
    refine ownsRow_touch (ownsRow_base ho (by omega)) ((Touch.refl [w.heap.size] w3).setCell _ _ (.inl (by simp))) (fun g hg => ?_)
    have := (ho.lt g hg).1
    simp only [List.mem_singleton]
    omega
  have d1 : w1.cell? ⟨w.heap.size, 1, none⟩ = some (.slice none 0 0) := hN.cell 1
  have e1 : w1.cell? ⟨b, 1, none⟩ = some (.slice a d.fl.length cap) := T1.cell c1 (by simp)
  have hown : w1.ownsRow w1.heap.size 54 3 (.slice none 0 0) 0 (cellsL []) := World.ownsRow_nil _ _ _ _
  have hend2 : ∀ w', Touch [] w1 w' → (∃ x, w'.cell? ⟨w.heap.size, 1, none⟩ = some x) ∧ w'.frozen? ⟨w.heap.size, 1, none⟩ = false := fun w' ht => ⟨⟨_, (ht.blk hN (by simp)).cell 1⟩, (ht.blk hN (by simp)).frozen 1⟩
  have SRC := Lib.hid hsrc
  have ENDS := Lib.hid hends
  have END2 := Lib.hid hend2
  have HN := Lib.hid h0
  have HW1 := Lib.hid hw1
  rw [hw1] at d1 e1
  clear hsrc hends hop hb h hl hN T1 hend2 hw1 hmax hcap h0 hlen hB
  go_enter Try.func24, Try.ntmps24
  go_wp2_with fail
  rw [← HW1.out] at d1 e1
  rw [← HW1.out]
  go_still_tail 6, (by kernel_rfl)
  change wpList _ _ _ _ _ w1.drew
  go_wp2_with (at_builtin; refine app_any rfl (.tmp 9) (.tmp 13) rfl w1.heap.size (.slice none 0 0) [] 0 rfl rfl hown a d.fl _ _ rfl rfl HN.out (fun ad had => by
      obtain ⟨e9, h9⟩ := SRC.out ad had
      rw [e9]
      exact fun j u hj => by rw [add_none, Nat.zero_add]; exact h9 j u hj) (by omega) (Nat.le_refl _) ?_; intro v1 w2 hown1 ht1; simp only [Nat.zero_add, List.nil_append] at hown1; have t1 : Touch [] w1 w2 := (Touch.drewN [] w1 1).trans ht1 (by simp [Value.ownBlock]); obtain ⟨⟨x9, y0⟩, y1⟩ := END2.out w2 t1; obtain ⟨a3, c3', rfl⟩ := ownsRow_shape hown1; clear ht1)
  go_ret
  obtain ⟨r1, r2⟩ := ENDS.out _ _ hown1 t1
  exact ⟨rfl, _, r1, r2⟩
end Go.Proofs.Ytaemebchblhpcaa

/- Package disk: Copy, and of no disk nothing. -/
import Derived.Test.YtaemebchblhpcaaDiskCrash
import Derived.Test.YtaemebchblhpcaaShelf
namespace Go.Proofs.Ytaemebchblhpcaa
open Go.RowKit Go.Maps Go.WideMaps
open DM (N F FL Sorted)

set_option maxRecDepth 10000 in
set_option maxHeartbeats 400000 in
theorem copy_any (w : World) (b n : Nat) (mo : Option Nat) (d : DM.D) (h : DiskAt w b mo n d) :
    Calls Try.prog 23 #[.pointer (some ⟨b, 0, none⟩)] w fun e w' => e = .returned (.pointer (some ⟨w.heap.size, 0, none⟩)) ∧ ∃ mo', DiskAt w' w.heap.size mo' n d ∧ Touch [] w w' ∧ ∀ m, mo' = some m → w.heap.size ≤ m := by
  have c0 := h.c0
  have c1 := h.c1
  have c2 := h.c2
  have c3 := h.c3
  have c4 := h.c4
  have hb := h.blk.lt
  obtain ⟨w1, hw1⟩ : ∃ w1, w1 = w.alloc (.cells #[.int .i64 d.room, .map mo, .bool d.off, .int .i64 d.left, .int .i64 d.done] 59) := ⟨_, rfl⟩
  have hB1 : Blk w1 w.heap.size 59 #[.int .i64 d.room, .map mo, .bool d.off, .int .i64 d.left, .int .i64 d.done] := by rw [hw1]; exact Blk.new _ _ _
  have T1 : Touch [] w w1 := by rw [hw1]; exact (Touch.refl [] w).alloc _
  have hs1 : w1.heap.size = w.heap.size + 1 := by rw [hw1]; simp
  have h1 := h.touch T1 (by simp) (by simp)
  have k1 := h1.c1
  have hcl : ∃ mo', Calls Try.prog 39 #[.map mo] w1 fun e w' => e = .returned (.map mo') ∧ MapF w' mo' n d.fl ∧ Touch [] w1 w' ∧ ∀ m, mo' = some m → w1.heap.size ≤ m := by
    rcases h1.map with ⟨rfl, hfl⟩ | ⟨mb, Dm, rfl, hown, hv⟩
    · refine ⟨none, ?_⟩
      have hc := AnyW.maps_Clone_nil Try.cloneF w1
      change Calls Try.prog 39 _ _ _ at hc
      refine hc.mono ?_
      rintro e w' ⟨rfl, rfl⟩
      exact ⟨rfl, .inl ⟨rfl, hfl⟩, Touch.refl _ _, fun m hm => by cases hm⟩
    · refine ⟨some w1.heap.size, ?_⟩
      have hc := AnyW.maps_Clone_owns Try.cloneF 9 RF mb n Dm w1 hown
      change Calls Try.prog 39 _ _ _ at hc
      refine hc.mono ?_
      rintro e w' ⟨rfl, ho, _, hB⟩
      exact ⟨rfl, .inr ⟨_, _, rfl, ho, hv⟩, Touch.of_below hB, fun m hm => by cases hm; exact Nat.le_refl _⟩
  obtain ⟨mo', hcl⟩ := hcl
  have HC := Lib.hid hcl
  have HB := Lib.hid hB1
  have HS := Lib.hid hs1
  clear hcl hB1 hs1
  go_enter Try.func23, Try.ntmps23
  go_wp2_with fail
  rw [← hw1]
  clear hw1
  refine HC.out.mono ?_
  rintro e w2 ⟨rfl, hm, T2, hmn⟩
  have hB2 := T2.blk HB.out (by simp)
  have f2 := hB2.frozen 1
  have q2 := hB2.cell 1
  have HM := Lib.hid hm
  have HMN := Lib.hid hmn
  clear hm hmn
  go_wp2_with fail
  go_ret
  have T23 : Touch [w.heap.size] w2 (w2.setCell ⟨w.heap.size, 1, none⟩ (.map mo')) := (Touch.refl _ _).setCell _ _ (.inl (by simp))
  refine ⟨rfl, mo', ⟨hB2.set_ 1 _, h.room, h.left, h.done, ?_, h.fit⟩, (T1.trans T2 (by simp)).trans T23 (by simp), fun m hm => by have := HMN.out m hm; have := HS.out; omega⟩
  rcases HM.out with h9 | ⟨mb, Dm, rfl, ⟨es, clock, hh, hr⟩, hv⟩
  · exact .inl h9
  · exact .inr ⟨mb, Dm, rfl, ⟨es, clock, T23.heap hh (by have := HMN.out mb rfl; have := HS.out; simp; omega), hr⟩, hv⟩
theorem copy_nil (w : World) : Calls Try.prog 23 #[.pointer none] w fun e w' => e = .returned (.pointer none) ∧ w' = w := by
  go_enter Try.func23, Try.ntmps23
  go_wp2
  go_ret
  exact ⟨rfl, rfl⟩
theorem crash_nil (w : World) (a0 : Option Addr) (l0 c0 : Nat) : Calls Try.prog 15 #[.pointer none, .slice a0 l0 c0] w fun e w' => e = .returned (.tuple #[]) ∧ Touch [] w w' := by
  go_enter Try.func15, Try.ntmps15
  go_wp2
  refine bodyPost_ret (results_none rfl _ _ _) rfl ?_
  exact ⟨rfl, (Touch.refl [] w).alloc _⟩

end Go.Proofs.Ytaemebchblhpcaa

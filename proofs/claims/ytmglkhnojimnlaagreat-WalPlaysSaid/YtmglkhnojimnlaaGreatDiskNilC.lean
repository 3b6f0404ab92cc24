/- Package disk: of no disk nothing comes. -/
import Derived.Test.YtmglkhnojimnlaaGreatDiskCopy
namespace Go.Proofs.YtmglkhnojimnlaaGreat
open Go.RowKit Go.Maps Go.WideMaps

theorem rename_nil (w : World) (k m : ByteArray) : Calls Tryz.prog 58 #[.pointer none, .string k, .string m] w fun e w' => e = .returned (.int .i64 14) ∧ Touch [] w w' := by
  obtain ⟨w1, hw1⟩ : ∃ w1, w1 = ((w.alloc (.cells #[.pointer none] 25)).alloc (.cells #[.string k] 9)).alloc (.cells #[.string m] 9) := ⟨_, rfl⟩
  have T1 : Touch [] w w1 := by rw [hw1]; exact (((Touch.refl [] w).alloc _).alloc _).alloc _
  have hB0 : Blk w1 w.heap.size 25 #[.pointer none] := by rw [hw1]; exact ((Blk.new w _ _).alloc _).alloc _
  have hB1 : Blk w1 (w.heap.size + 1) 9 #[.string k] := by rw [hw1]; exact (Blk.new' _ _ _ (by simp)).alloc _
  have hB2 : Blk w1 (w.heap.size + 1 + 1) 9 #[.string m] := by rw [hw1]; exact Blk.new' _ _ _ (by simp)
  have x0 := hB0.cell 0
  have x1 := hB1.cell 0
  have x2 := hB2.cell 0
  have T2 : Touch [] w1 (w1.drew.alloc (.cells #[.string k, .string m] 9)) := ((Touch.refl [] w1).drew_).alloc _
  have y0 := T2.cell x0 (by simp)
  have y1 := T2.cell x1 (by simp)
  have y2 := T2.cell x2 (by simp)
  clear hB0 hB1 hB2
  go_enter Tryz.func58, Tryz.ntmps58
  go_wp2_with fail
  rw [← hw1]
  clear hw1
  go_region_held3 (fun w' => w'.cell? ⟨w.heap.size, 0, none⟩ = some (.pointer none) ∧ w'.cell? ⟨w.heap.size + 1, 0, none⟩ = some (.string k) ∧ w'.cell? ⟨w.heap.size + 1 + 1, 0, none⟩ = some (.string m)) (first | exact ⟨x0, x1, x2⟩ | exact ⟨y0, y1, y2⟩)
    (first
      | (go_at_call 75; refine (may1_nil _ _ _).mono ?_; rintro e w3 ⟨rfl, rfl⟩)
      | (go_at_call 77; refine (then_err _ none 14 _ (by simp)).mono ?_; rintro e w4 ⟨rfl, rfl⟩))
  all_goals
    go_wp2_with fail
    go_ret
    exact ⟨rfl, T1.trans T2 (by simp)⟩

theorem append_nil (w : World) (k s : ByteArray) : Calls Tryz.prog 52 #[.pointer none, .string k, .string s] w fun e w' => e = .returned (.int .i64 14) ∧ Touch [] w w' := by
  obtain ⟨w1, hw1⟩ : ∃ w1, w1 = ((w.alloc (.cells #[.pointer none] 25)).alloc (.cells #[.string k] 9)).alloc (.cells #[.string s] 9) := ⟨_, rfl⟩
  have T1 : Touch [] w w1 := by rw [hw1]; exact (((Touch.refl [] w).alloc _).alloc _).alloc _
  have hB0 : Blk w1 w.heap.size 25 #[.pointer none] := by rw [hw1]; exact ((Blk.new w _ _).alloc _).alloc _
  have hB1 : Blk w1 (w.heap.size + 1) 9 #[.string k] := by rw [hw1]; exact (Blk.new' _ _ _ (by simp)).alloc _
  have x0 := hB0.cell 0
  have x1 := hB1.cell 0
  clear hB0 hB1
  go_enter Tryz.func52, Tryz.ntmps52
  go_wp2_with fail
  rw [← hw1]
  clear hw1
  refine (may1_nil _ _ _).mono ?_
  rintro e w3 ⟨rfl, rfl⟩
  have T2 : Touch [] w1 (w1.alloc (.cells #[.string k] 9)) := (Touch.refl [] w1).alloc _
  have y0 := T2.cell x0 (by simp)
  go_wp2_with fail
  go_region
  all_goals
    go_wp2_with fail
    refine (then_err _ none 14 _ (by simp)).mono ?_
    rintro e w4 ⟨rfl, rfl⟩
    go_wp2_with fail
    go_ret
    exact ⟨rfl, T1.trans T2.drew_ (by simp)⟩
theorem cut_nil (w : World) (k : ByteArray) (c : Int) : Calls Tryz.prog 45 #[.pointer none, .string k, .int .i64 c] w fun e w' => e = .returned (.int .i64 14) ∧ Touch [] w w' := by
  obtain ⟨w1, hw1⟩ : ∃ w1, w1 = ((w.alloc (.cells #[.pointer none] 25)).alloc (.cells #[.string k] 9)).alloc (.cells #[.int .i64 c] 3) := ⟨_, rfl⟩
  have T1 : Touch [] w w1 := by rw [hw1]; exact (((Touch.refl [] w).alloc _).alloc _).alloc _
  have hB0 : Blk w1 w.heap.size 25 #[.pointer none] := by rw [hw1]; exact ((Blk.new w _ _).alloc _).alloc _
  have hB1 : Blk w1 (w.heap.size + 1) 9 #[.string k] := by rw [hw1]; exact (Blk.new' _ _ _ (by simp)).alloc _
  have x0 := hB0.cell 0
  have x1 := hB1.cell 0
  clear hB0 hB1
  go_enter Tryz.func45, Tryz.ntmps45
  go_wp2_with fail
  rw [← hw1]
  clear hw1
  refine (may1_nil _ _ _).mono ?_
  rintro e w3 ⟨rfl, rfl⟩
  have T2 : Touch [] w1 (w1.alloc (.cells #[.string k] 9)) := (Touch.refl [] w1).alloc _
  have y0 := T2.cell x0 (by simp)
  go_wp2_with fail
  go_region
  all_goals
    go_wp2_with fail
    refine (then_err _ none 14 _ (by simp)).mono ?_
    rintro e w4 ⟨rfl, rfl⟩
    go_wp2_with fail
    go_ret
    exact ⟨rfl, T1.trans T2.drew_ (by simp)⟩
end Go.Proofs.YtmglkhnojimnlaaGreat

/- law09: DiskNil. -/
import Derived.Test.YtaemebchblhpcaaDiskAwake
namespace Go.Proofs.Ytaemebchblhpcaa
open Go.RowKit Go.Maps Go.WideMaps

abbrev z0 : DM.D := ⟨0, [], false, 0, 0⟩
theorem nil1 : DM.append z0 (nm sA) ⟨#[120]⟩ = (15, z0) := by kernel_rfl
theorem nil2 : DM.append z0 (nm sA) ⟨#[]⟩ = (0, ⟨0, [([97], (⟨#[]⟩, 0))], false, 0, 1⟩) := by kernel_rfl

set_option maxRecDepth 10000 in
set_option maxHeartbeats 800000 in
theorem nil_walk (s : ByteArray) (w : World) (_hs : s.size ≤ maxLen) : Calls Try.prog 8 #[.string s] w fun e w' => e = .returned (.bool true) ∧ Touch [] w w' := by
  have hsa : sA.size ≤ maxLen := by decide
  have HSA := Lib.hid hsa
  clear hsa
  go_enter Try.func8, Try.ntmps8
  go_wp2_with fail
  have hz : DiskAt (w.alloc (.cells #[.int .i64 0, .map none, .bool false, .int .i64 0, .int .i64 0] 59)) w.heap.size none 0 z0 :=
    ⟨Blk.new w _ _, ⟨by simp, by simp⟩, ⟨by simp, by simp⟩, ⟨by simp, by simp⟩, .inl ⟨rfl, rfl⟩, ⟨DM.Sorted.nil, by simp, by simp [DM.used], by simp⟩⟩
  have oz : Own w (w.alloc (.cells #[.int .i64 0, .map none, .bool false, .int .i64 0, .int .i64 0] 59)) w.heap.size 0 z0 := ⟨none, hz, (Touch.refl [] w).alloc _, Nat.le_refl _, fun m hm => by cases hm⟩
  clear hz
  refine (limit_nil _ _).mono ?_
  rintro e w1 ⟨rfl, rfl⟩
  go_wp2_with fail
  refine (arm_nil _ _).mono ?_
  rintro e w1 ⟨rfl, rfl⟩
  go_wp2_with fail
  refine (crash_nil _ _ _ _).mono ?_
  rintro e w2 ⟨rfl, T2⟩
  have o2 := (oz.touch ((Touch.refl [] _).alloc (.cells #[.int .i64 1] 3))).touch T2
  clear oz T2
  go_wp2_with fail
  refine (read_nil _ _).mono ?_
  rintro e w3 ⟨rfl, T3⟩
  have o3 := o2.touch T3
  clear o2 T3
  go_wp2_with fail
  refine (awake_any _).mono ?_
  rintro e w4 ⟨rfl, T4⟩
  have o4 := o3.touch T4
  clear o3 T4
  go_wp2_with fail
  refine (append_nil _ _ _).mono ?_
  rintro e w5 ⟨rfl, T5⟩
  have o5 := o4.touch T5
  clear o4 T5
  go_wp2_with fail
  refine (sync_nil _ _).mono ?_
  rintro e w6 ⟨rfl, T6⟩
  have o6 := o5.touch T6
  clear o5 T6
  go_wp2_with fail
  refine (rename_nil _ _ _).mono ?_
  rintro e w7 ⟨rfl, T7⟩
  have o7 := o6.touch T7
  clear o6 T7
  go_wp2_with fail
  refine (remove_nil _ _).mono ?_
  rintro e w8 ⟨rfl, T8⟩
  have o8 := o7.touch T8
  clear o7 T8
  go_wp2_with fail
  refine (cut_nil _ _ _).mono ?_
  rintro e w9 ⟨rfl, T9⟩
  have o9 := o8.touch T9
  clear o8 T9
  go_wp2_with fail
  refine (names_nil _).mono ?_
  rintro e wa ⟨rfl, rfl⟩
  go_wp2_with fail
  refine (used_nil _).mono ?_
  rintro e wa ⟨rfl, rfl⟩
  go_wp2_with fail
  refine (steps_nil _).mono ?_
  rintro e wa ⟨rfl, rfl⟩
  go_wp2_with fail
  refine (on_nil _).mono ?_
  rintro e wa ⟨rfl, rfl⟩
  go_wp2_with fail
  refine (copy_nil _).mono ?_
  rintro e wa ⟨rfl, rfl⟩
  go_wp2_with fail
  refine (append_own o9 (by omega) sA ⟨#[120]⟩ HSA.out (by decide) nil1).mono ?_
  rintro e wb ⟨rfl, ob⟩
  clear o9
  go_wp2_with fail
  refine (append_own ob (by omega) sA ⟨#[]⟩ HSA.out (by decide) nil2).mono ?_
  rintro e wd ⟨rfl, od⟩
  go_wp2_with fail
  go_ret
  exact ⟨rfl, od.T⟩
end Go.Proofs.Ytaemebchblhpcaa

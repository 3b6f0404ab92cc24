/- law10: WalNil. -/
import Derived.Test.YtmglkhnojimnlaaWalAwake
namespace Go.Proofs.Ytmglkhnojimnlaa
open Go.RowKit Go.Maps

section
variable (w : World)
theorem nbroken : Calls Try.prog 29 #[.pointer none] w fun e w' => e = .returned (.bool true) ∧ w' = w := by
  go_enter Try.func29, Try.ntmps29
  go_wp2
  go_ret
  exact ⟨rfl, rfl⟩
theorem nlen : Calls Try.prog 27 #[.pointer none] w fun e w' => e = .returned (.int .i64 0) ∧ w' = w := by
  go_enter Try.func27, Try.ntmps27
  go_wp2
  go_ret
  exact ⟨rfl, rfl⟩
theorem nfirm : Calls Try.prog 26 #[.pointer none] w fun e w' => e = .returned (.int .i64 0) ∧ w' = w := by
  go_enter Try.func26, Try.ntmps26
  go_wp2
  go_ret
  exact ⟨rfl, rfl⟩
theorem nsize : Calls Try.prog 28 #[.pointer none] w fun e w' => e = .returned (.int .i64 0) ∧ w' = w := by
  go_enter Try.func28, Try.ntmps28
  go_wp2
  go_ret
  exact ⟨rfl, rfl⟩
theorem nready : Calls Try.prog 45 #[.pointer none] w fun e w' => e = .returned (.int .i64 1) ∧ w' = w := by
  go_enter Try.func45, Try.ntmps45
  go_wp2
  go_ret
  exact ⟨rfl, rfl⟩
theorem nappend (v : Value) : Calls Try.prog 22 #[.pointer none, v] w fun e w' => e = .returned (.int .i64 1) ∧ w' = w := by
  go_enter Try.func22, Try.ntmps22
  go_wp2_with fail
  refine (nready _).mono ?_
  rintro e w' ⟨rfl, rfl⟩
  go_wp2_with fail
  go_ret
  exact ⟨rfl, rfl⟩
theorem nsync : Calls Try.prog 20 #[.pointer none] w fun e w' => e = .returned (.int .i64 1) ∧ Touch [] w w' := by
  go_enter Try.func20, Try.ntmps20
  go_wp2_with fail
  refine (nready _).mono ?_
  rintro e w' ⟨rfl, rfl⟩
  go_wp2_with fail
  go_quiet (fail)
  go_wp2_with fail
  go_ret
  exact ⟨rfl, Touch.drewN [] _ _⟩
theorem nrewrite (v : Value) : Calls Try.prog 21 #[.pointer none, v] w fun e w' => e = .returned (.int .i64 1) ∧ Touch [] w w' := by
  go_enter Try.func21, Try.ntmps21
  go_wp2_with fail
  refine (nready _).mono ?_
  rintro e w' ⟨rfl, rfl⟩
  go_wp2_with fail
  go_ret
  exact ⟨rfl, (Touch.refl [] _).alloc _⟩
theorem nopen : Calls Try.prog 18 #[.pointer none] w fun e w' => e = .returned (.tuple #[.pointer none, .slice none 0 0, .int .i64 1]) ∧ Touch [] w w' := by
  go_enter Try.func18, Try.ntmps18
  go_wp2_with fail
  go_ret3
  exact ⟨rfl, (Touch.refl [] _).alloc _⟩
variable {w : World} {g : Nat} (h : Blk w g 54 #[.pointer none, .slice none 0 0, .int .i64 0, .bool false])
theorem zbroken (h : Blk w g 54 #[.pointer none, .slice none 0 0, .int .i64 0, .bool false]) : Calls Try.prog 29 #[.pointer (some ⟨g, 0, none⟩)] w fun e w' => e = .returned (.bool true) ∧ w' = w := by
  have c0 := h.cell 0
  clear h
  go_enter Try.func29, Try.ntmps29
  go_wp2
  go_ret
  exact ⟨rfl, rfl⟩
theorem zlen (h : Blk w g 54 #[.pointer none, .slice none 0 0, .int .i64 0, .bool false]) : Calls Try.prog 27 #[.pointer (some ⟨g, 0, none⟩)] w fun e w' => e = .returned (.int .i64 0) ∧ w' = w := by
  have c1 := h.cell 1
  clear h
  go_enter Try.func27, Try.ntmps27
  go_wp2
  go_ret
  exact ⟨rfl, rfl⟩
theorem zappend (h : Blk w g 54 #[.pointer none, .slice none 0 0, .int .i64 0, .bool false]) (v : Value) : Calls Try.prog 22 #[.pointer (some ⟨g, 0, none⟩), v] w fun e w' => e = .returned (.int .i64 13) ∧ w' = w := by
  have hr : Calls Try.prog 45 #[.pointer (some ⟨g, 0, none⟩)] w fun e w' => e = .returned (.int .i64 13) ∧ w' = w := by
    have hb := zbroken h
    have HB := Lib.hid hb
    clear hb h
    go_enter Try.func45, Try.ntmps45
    go_wp2_with fail
    refine HB.out.mono ?_
    rintro e w' ⟨rfl, rfl⟩
    go_wp2_with fail
    go_ret
    exact ⟨rfl, rfl⟩
  have HR := Lib.hid hr
  clear hr h
  go_enter Try.func22, Try.ntmps22
  go_wp2_with fail
  refine HR.out.mono ?_
  rintro e w' ⟨rfl, rfl⟩
  go_wp2_with fail
  go_ret
  exact ⟨rfl, rfl⟩
end
set_option maxRecDepth 10000 in
set_option maxHeartbeats 1600000 in
theorem nil_walk (s : ByteArray) (w : World) (hs : s.size ≤ 9223372036854775807) : Calls Try.prog 8 #[.string s] w fun e w' => e = .returned (.bool true) ∧ Touch [] w w' := by
  go_enter Try.func8, Try.ntmps8
  go_wp2_with fail
  obtain ⟨w1, hw1⟩ : ∃ w1, w1 = w.alloc (.cells #[.pointer none, .slice none 0 0, .int .i64 0, .bool false] 54) := ⟨_, rfl⟩
  have hZ : Blk w1 w.heap.size 54 #[.pointer none, .slice none 0 0, .int .i64 0, .bool false] := hw1 ▸ Blk.new _ _ _
  have T1 : Touch [] w w1 := hw1 ▸ (Touch.refl [] w).alloc _
  rw [← hw1]
  clear hw1
  refine (nopen _).mono ?_
  rintro e w2 ⟨rfl, T2⟩
  go_wp2_with fail
  refine (awake_any _).mono ?_
  rintro e w3 ⟨rfl, T3⟩
  have TA := (T1.trans T2 (by simp)).trans T3 (by simp)
  have hZ3 := T3.blk (T2.blk hZ (by simp)) (by simp)
  clear T1 T2 T3 hZ
  go_wp2_with fail
  refine (nappend _ _).mono ?_
  rintro e _ ⟨rfl, rfl⟩
  go_wp2_with fail
  refine (nsync _).mono ?_
  rintro e w5 ⟨rfl, T5⟩
  go_wp2_with fail
  refine (nrewrite _ _).mono ?_
  rintro e w6 ⟨rfl, T6⟩
  go_wp2_with fail
  refine (nlen _).mono ?_
  rintro e w6 ⟨rfl, rfl⟩
  go_wp2_with fail
  refine (nfirm _).mono ?_
  rintro e w6 ⟨rfl, rfl⟩
  go_wp2_with fail
  refine (nsize _).mono ?_
  rintro e w6 ⟨rfl, rfl⟩
  go_wp2_with fail
  refine (nbroken _).mono ?_
  rintro e w6 ⟨rfl, rfl⟩
  have TW : Touch [] w3 w6 := (((Touch.refl [] w3).alloc _).trans T5 (by simp)).alloc _ |>.trans T6 (by simp)
  have hZ4 := TW.blk hZ3 (by simp)
  have TB := TA.trans TW (by simp)
  have HZ4 := Lib.hid hZ4
  have HTB := Lib.hid TB
  clear TW T5 T6 TA hZ3 hZ4 TB
  go_wp2_with fail
  refine (zbroken HZ4.out).mono ?_
  rintro e w6 ⟨rfl, rfl⟩
  go_wp2_with fail
  refine (zappend (HZ4.out.alloc _) _).mono ?_
  rintro e _ ⟨rfl, rfl⟩
  go_wp2_with fail
  refine (zlen (HZ4.out.alloc _)).mono ?_
  rintro e _ ⟨rfl, rfl⟩
  go_wp2_with fail
  go_ret
  exact ⟨rfl, HTB.out.alloc _⟩
end Go.Proofs.Ytmglkhnojimnlaa

/- CacheChecks. -/
import Derived.Test.YtibbfihnhlgkeaaCacheA6
import Derived.Test.YtibbfihnhlgkeaaCacheD
import Derived.Test.YtibbfihnhlgkeaaCacheL
import Derived.Deep.RegionHeld3
import Derived.Deep.DeepCutAuto
namespace Go.Proofs.Ytibbfihnhlgkeaa
open Go.RowKit Go.Maps Go.WideMaps
open NM (Bs bs ofBs)
open CM (It C)

theorem row_keep {w w' : World} {b size n D : Nat} {t t' : TypeId} {x : Value} {xs : List Value} {cs : Array Value} (hr : w.ownsRow b t size x n xs) (hb : Blk w D t' cs) (hne : t ≠ t') (T : Touch [D] w w') : w'.ownsRow b t size x n xs := by
  refine trow_touch hr T (fun k hk hm => ?_)
  simp only [List.mem_cons, List.not_mem_nil, or_false] at hm
  subst hm
  rcases hr.2 with ⟨e, _⟩ | ⟨g, cap, cur, e, _, hg, _⟩
  · rw [e] at hk; cases hk
  · rw [e] at hk
    injection hk with hk
    subst hk
    exact Blk.ne_type (show Blk w g t cur from hg) hb hne rfl
theorem small_arg {W : World} {B : Nat} {e : CM.E} {a : Option Addr} {c : Nat} (hown : W.ownsRow B 68 5 (.slice a (smallE e).recs.length c) (smallE e).recs.length (flat (smallE e).recs)) (ht : 0 ≤ e.type ∧ e.type ≤ 65535) (hc : 0 ≤ e.cls ∧ e.cls ≤ 65535) : ArgE W (smallE e) (.slice a (smallE e).recs.length c) := by
  obtain ⟨h1, h2⟩ := smallE_size e
  exact ⟨(RecsAt.of_row hown).1, by unfold maxLen; omega, fun r hr => ⟨by have := (h2 r hr).1; unfold maxLen; omega, by have := (h2 r hr).2; unfold maxLen; omega⟩, ht, hc⟩
theorem small_in (w : World) (e : CM.E) (rv : Value) (h : ArgE w e rv) (W : World) (T : Touch [] w W) :
    Calls Try.prog 11 #[.agg (entV e rv)] W fun e1 w' => ∃ a c, e1 = .returned (.agg (entV (smallE e) (.slice a (smallE e).recs.length c))) ∧ w'.ownsRow W.heap.size 68 5 (.slice a (smallE e).recs.length c) (smallE e).recs.length (flat (smallE e).recs) ∧ Touch [] W w' := by
  refine (small_any W e rv (h.touch T)).mono ?_
  rintro e1 w' ⟨v, rfl, hown, t⟩
  obtain ⟨a, c, rfl⟩ := own_shape hown
  exact ⟨a, c, rfl, hown, t⟩
set_option maxRecDepth 10000 in
set_option maxHeartbeats 2000000 in
theorem checks_any (w : World) (e1 e2 : CM.E) (r1 r2 : Value) (h1 : ArgE w e1 r1) (h2 : ArgE w e2 r2) :
    Calls Try.prog 3 #[.agg (entV e1 r1), .agg (entV e2 r2)] w fun e w' => e = .returned (.bool true) ∧ Touch [] w w' := by
  have T0 := ((Touch.refl [] w).alloc (.cells (entV e1 r1) 25)).alloc (.cells (entV e2 r2) 25)
  obtain ⟨W0, hW0⟩ : ∃ W0, W0 = (w.alloc (.cells (entV e1 r1) 25)).alloc (.cells (entV e2 r2) 25) := ⟨_, rfl⟩
  have b1 : Blk W0 w.heap.size 25 (entV e1 r1) := by rw [hW0]; exact (Blk.new w _ _).alloc _
  have b2 : Blk W0 (w.heap.size + 1) 25 (entV e2 r2) := by rw [hW0]; exact Blk.new' _ _ _ (by simp)
  rw [← hW0] at T0
  obtain ⟨a1, l1, rfl⟩ : ∃ a l, r1 = .slice a e1.recs.length l := by obtain ⟨a, c, h, _⟩ := h1.recs; exact ⟨a, c, h⟩
  obtain ⟨a2, l2, rfl⟩ : ∃ a l, r2 = .slice a e2.recs.length l := by obtain ⟨a, c, h, _⟩ := h2.recs; exact ⟨a, c, h⟩
  have HW0 := Lib.hid hW0
  have H1 := Lib.hid (And.intro h1 (And.intro b1 (And.intro h2 (And.intro b2 T0))))
  clear h1 h2 b1 b2 T0 hW0
  obtain ⟨E1, E2, F1, F2, SM1, SM2, SA1, SA2⟩ : ∃ E1 E2 : CM.E, EFits E1 ∧ EFits E2 ∧
      (∀ W, Touch [] w W → Calls Try.prog 11 #[.agg (entV e1 (.slice a1 e1.recs.length l1))] W fun e w' => ∃ a c, e = .returned (.agg (entV E1 (.slice a E1.recs.length c))) ∧ w'.ownsRow W.heap.size 68 5 (.slice a E1.recs.length c) E1.recs.length (flat E1.recs) ∧ Touch [] W w') ∧
      (∀ W, Touch [] w W → Calls Try.prog 11 #[.agg (entV e2 (.slice a2 e2.recs.length l2))] W fun e w' => ∃ a c, e = .returned (.agg (entV E2 (.slice a E2.recs.length c))) ∧ w'.ownsRow W.heap.size 68 5 (.slice a E2.recs.length c) E2.recs.length (flat E2.recs) ∧ Touch [] W w') ∧
      (∀ W B a c, W.ownsRow B 68 5 (.slice a E1.recs.length c) E1.recs.length (flat E1.recs) → ArgE W E1 (.slice a E1.recs.length c)) ∧
      (∀ W B a c, W.ownsRow B 68 5 (.slice a E2.recs.length c) E2.recs.length (flat E2.recs) → ArgE W E2 (.slice a E2.recs.length c)) :=
    ⟨smallE e1, smallE e2, smallE_fits e1, smallE_fits e2, fun W T => small_in w e1 _ H1.out.1 W T, fun W T => small_in w e2 _ H1.out.2.2.1 W T, fun W B a c h => small_arg h H1.out.1.ty H1.out.1.cls, fun W B a c h => small_arg h H1.out.2.2.1.ty H1.out.2.2.1.cls⟩
  have HS1 := Lib.hid SM1
  have HS2 := Lib.hid SM2
  have HSA := Lib.hid (And.intro SA1 (And.intro SA2 (And.intro F1 F2)))
  clear SM1 SM2 SA1 SA2 F1 F2
  go_enter Try.func3, Try.ntmps3
  go_upto_region 1 with (fail)
  rw [← HW0.out]
  go_wp2_with fail
  refine (awake_any _).mono ?_
  rintro e w1 ⟨rfl, T1⟩
  have HT1 := Lib.hid (H1.out.2.2.2.2.trans T1 (by simp))
  have HB1 := Lib.hid (And.intro (T1.blk H1.out.2.1 (by simp)) (T1.blk H1.out.2.2.2.1 (by simp)))
  clear T1
  go_wp2_with (refine wpList_load_row rfl 25 (.tmp 2) rfl w.heap.size rfl 25 (entV e1 (.slice a1 e1.recs.length l1)) (0, 0) _ HB1.out.1 Try.underlying25 rfl (by kernel_rfl) ?_)
  refine (HS1.out w1 HT1.out).mono ?_
  rintro e w2 ⟨a3, l3, rfl, hown3, T2⟩
  have HT2 := Lib.hid (HT1.out.trans T2 (by simp))
  have HB2 := Lib.hid (And.intro (T2.blk HB1.out.1 (by simp)) (T2.blk HB1.out.2 (by simp)))
  clear T2
  obtain ⟨w3, hw3⟩ : ∃ W, W = w2.setRow w.heap.size (entV E1 (.slice a3 E1.recs.length l3)) := ⟨_, rfl⟩
  have t3 : Touch [] w w3 := by rw [hw3]; exact HT2.out.row _ _ (.inr (Nat.le_refl _))
  have s3 : Touch [w.heap.size] w2 w3 := by rw [hw3]; exact (Touch.refl _ _).row _ _ (.inl (by simp))
  have HB3 := Lib.hid (show Blk w3 w.heap.size 25 (entV E1 (.slice a3 E1.recs.length l3)) ∧ Blk w3 (w.heap.size + 1) 25 (entV e2 (.slice a2 e2.recs.length l2)) from by rw [hw3]; exact ⟨HB2.out.1.row _, ((Touch.refl [w.heap.size] w2).row w.heap.size _ (.inl (by simp))).blk HB2.out.2 (by simp)⟩)
  have HR3 := Lib.hid (row_keep hown3 HB2.out.1 (by decide) s3)
  have HT3 := Lib.hid t3
  have HW3 := Lib.hid hw3
  clear hown3 t3 s3 hw3
  go_wp2_with (first
    | (refine wpList_store_rowTo rfl 25 (.tmp 2) (.tmp 9) rfl rfl w.heap.size (entV E1 (.slice a3 E1.recs.length l3)) rfl rfl 25 (entV e1 (.slice a1 e1.recs.length l1)) HB2.out.1 (by kernel_rfl) rfl (entV_cells _ _ _ _) ?_; rw [← HW3.out])
    | (refine wpList_load_row rfl 25 (.tmp 3) rfl (w.heap.size + 1) rfl 25 (entV e2 (.slice a2 e2.recs.length l2)) (0, 0) _ HB3.out.2 Try.underlying25 rfl (by kernel_rfl) ?_))
  refine (HS2.out w3 HT3.out).mono ?_
  rintro e w4 ⟨a4, l4, rfl, hown4, T4⟩
  have HT4 := Lib.hid (HT3.out.trans T4 (by simp))
  have HB4 := Lib.hid (And.intro (T4.blk HB3.out.1 (by simp)) (T4.blk HB3.out.2 (by simp)))
  have HR4 := Lib.hid (trow_touch HR3.out T4 (by simp))
  clear T4
  obtain ⟨w5, hw5⟩ : ∃ W, W = w4.setRow (w.heap.size + 1) (entV E2 (.slice a4 E2.recs.length l4)) := ⟨_, rfl⟩
  have t5 : Touch [] w w5 := by rw [hw5]; exact HT4.out.row _ _ (.inr (by omega))
  have s5 : Touch [w.heap.size + 1] w4 w5 := by rw [hw5]; exact (Touch.refl _ _).row _ _ (.inl (by simp))
  have HB5 := Lib.hid (show Blk w5 w.heap.size 25 (entV E1 (.slice a3 E1.recs.length l3)) ∧ Blk w5 (w.heap.size + 1) 25 (entV E2 (.slice a4 E2.recs.length l4)) from by rw [hw5]; exact ⟨((Touch.refl [w.heap.size + 1] w4).row (w.heap.size + 1) _ (.inl (by simp))).blk HB4.out.1 (by simp), HB4.out.2.row _⟩)
  have A1 := HSA.out.1 _ _ _ _ (row_keep HR4.out HB4.out.2 (by decide) s5)
  have A2 := HSA.out.2.1 _ _ _ _ (row_keep hown4 HB4.out.2 (by decide) s5)
  have HT5 := Lib.hid t5
  have HW5 := Lib.hid hw5
  obtain ⟨q1, hq1⟩ : ∃ q, q = CM.check E1 := ⟨_, rfl⟩
  have F1 := HSA.out.2.2.1
  have F2 := HSA.out.2.2.2
  have cc := fun W (t : Touch [] w5 W) => ccheck_any W E1 (.slice a3 E1.recs.length l3) F1 (A1.touch t).recs
  have rc := fun W (t : Touch [] w5 W) => rccheck_any W E1 (.slice a3 E1.recs.length l3) F1 (A1.touch t).recs
  rw [← hq1] at cc rc
  have h12 : ∀ e : CM.E, e = E1 ∨ e = E2 → e.name.size ≤ 1099511627776 ∧ (0 ≤ e.type ∧ e.type ≤ 65535) ∧ (0 ≤ e.cls ∧ e.cls ≤ 65535) := by
    intro e he
    rcases he with rfl | rfl
    · exact ⟨F1.1, A1.ty, A1.cls⟩
    · exact ⟨F2.1, A2.ty, A2.cls⟩
  have RK := Lib.hid (fun (e : CM.E) (rv : Value) W (he : e = E1 ∨ e = E2) (t : Touch [] w5 W) => Calls.mono (R' := fun x w' => x = .returned (.string (CM.key e)) ∧ Touch [] w5 w') (rKey_any W e rv (h12 e he).1 (h12 e he).2.1 (h12 e he).2.2) (fun x w' H => ⟨H.1, t.trans H.2 (by simp)⟩))
  have CK := Lib.hid (fun (e : CM.E) (rv : Value) W (he : e = E1 ∨ e = E2) (t : Touch [] w5 W) => Calls.mono (R' := fun x w' => x = .returned (.string (CM.key e)) ∧ Touch [] w5 w') (ckey_any W e rv (h12 e he).1 (h12 e he).2.1 (h12 e he).2.2) (fun x w' H => ⟨H.1, t.trans H.2 (by simp)⟩))
  have CC := Lib.hid (fun W (t : Touch [] w5 W) => Calls.mono (R' := fun e w' => e = .returned (.int .i64 q1) ∧ Touch [] w5 w') (cc W t) (fun e w' H => ⟨H.1, t.trans H.2 (by simp)⟩))
  have RC := Lib.hid (fun W (t : Touch [] w5 W) => Calls.mono (R' := fun e w' => e = .returned (.int .i64 q1) ∧ Touch [] w5 w') (rc W t) (fun e w' H => ⟨H.1, t.trans H.2 (by simp)⟩))
  have HS := Lib.hid (show ∀ W, Touch [] w5 W → W.cell? ⟨w.heap.size, 0, none⟩ = some (.int .i64 E1.kind) ∧ W.cell? ⟨w.heap.size, 1, none⟩ = some (.string E1.name) ∧ W.cell? ⟨w.heap.size, 2, none⟩ = some (.int .u16 E1.type) ∧ W.cell? ⟨w.heap.size, 3, none⟩ = some (.int .u16 E1.cls) ∧ W.cell? ⟨w.heap.size, 4, none⟩ = some (.slice a3 E1.recs.length l3) ∧ W.cell? ⟨w.heap.size, 5, none⟩ = some (.int .i64 E1.til) ∧ W.cell? ⟨w.heap.size, 6, none⟩ = some (.int .i64 E1.rank) ∧ W.cell? ⟨w.heap.size, 7, none⟩ = some (.int .i64 E1.epoch) ∧ W.cell? ⟨w.heap.size, 8, none⟩ = some (.int .i64 E1.src) ∧ W.cell? ⟨w.heap.size + 1, 0, none⟩ = some (.int .i64 E2.kind) ∧ W.cell? ⟨w.heap.size + 1, 1, none⟩ = some (.string E2.name) ∧ W.cell? ⟨w.heap.size + 1, 2, none⟩ = some (.int .u16 E2.type) ∧ W.cell? ⟨w.heap.size + 1, 3, none⟩ = some (.int .u16 E2.cls) ∧ W.cell? ⟨w.heap.size + 1, 4, none⟩ = some (.slice a4 E2.recs.length l4) ∧ W.cell? ⟨w.heap.size + 1, 5, none⟩ = some (.int .i64 E2.til) ∧ W.cell? ⟨w.heap.size + 1, 6, none⟩ = some (.int .i64 E2.rank) ∧ W.cell? ⟨w.heap.size + 1, 7, none⟩ = some (.int .i64 E2.epoch) ∧ W.cell? ⟨w.heap.size + 1, 8, none⟩ = some (.int .i64 E2.src) from fun W t => by
    obtain ⟨x0, x1, x2, x3, x4, x5, x6, x7, x8⟩ := entCells (t.blk HB5.out.1 (by simp))
    obtain ⟨y0, y1, y2, y3, y4, y5, y6, y7, y8⟩ := entCells (t.blk HB5.out.2 (by simp))
    exact ⟨x0, x1, x2, x3, x4, x5, x6, x7, x8, y0, y1, y2, y3, y4, y5, y6, y7, y8⟩)
  obtain ⟨b, hb⟩ : ∃ b, b = ((CM.key E1).toList == (CM.key E2).toList) := ⟨_, rfl⟩
  have HB := Lib.hid hb
  have tt := Touch.refl [] w5
  clear hq1 F1 F2 cc rc A1 A2 h12 hown4 t5 s5 hw5 hb
  go_wp2_with (refine wpList_store_rowTo rfl 25 (.tmp 3) (.tmp 11) rfl rfl (w.heap.size + 1) (entV E2 (.slice a4 E2.recs.length l4)) rfl rfl 25 (entV e2 (.slice a2 e2.recs.length l2)) HB4.out.2 (by kernel_rfl) rfl (entV_cells _ _ _ _) ?_; rw [← HW5.out])
  go_upto_region 4 with (fail)
  go_cut [6] (fun s wx => s = .bool b ∧ Touch [] w5 wx)
  case first =>
    go_region_held3 (fun w' => w'.cell? ⟨w.heap.size, 0, none⟩ = some (.int .i64 E1.kind) ∧ w'.cell? ⟨w.heap.size, 1, none⟩ = some (.string E1.name) ∧ w'.cell? ⟨w.heap.size, 2, none⟩ = some (.int .u16 E1.type) ∧ w'.cell? ⟨w.heap.size, 3, none⟩ = some (.int .u16 E1.cls) ∧ w'.cell? ⟨w.heap.size, 4, none⟩ = some (.slice a3 E1.recs.length l3) ∧ w'.cell? ⟨w.heap.size, 5, none⟩ = some (.int .i64 E1.til) ∧ w'.cell? ⟨w.heap.size, 6, none⟩ = some (.int .i64 E1.rank) ∧ w'.cell? ⟨w.heap.size, 7, none⟩ = some (.int .i64 E1.epoch) ∧ w'.cell? ⟨w.heap.size, 8, none⟩ = some (.int .i64 E1.src) ∧ w'.cell? ⟨w.heap.size + 1, 0, none⟩ = some (.int .i64 E2.kind) ∧ w'.cell? ⟨w.heap.size + 1, 1, none⟩ = some (.string E2.name) ∧ w'.cell? ⟨w.heap.size + 1, 2, none⟩ = some (.int .u16 E2.type) ∧ w'.cell? ⟨w.heap.size + 1, 3, none⟩ = some (.int .u16 E2.cls) ∧ w'.cell? ⟨w.heap.size + 1, 4, none⟩ = some (.slice a4 E2.recs.length l4) ∧ w'.cell? ⟨w.heap.size + 1, 5, none⟩ = some (.int .i64 E2.til) ∧ w'.cell? ⟨w.heap.size + 1, 6, none⟩ = some (.int .i64 E2.rank) ∧ w'.cell? ⟨w.heap.size + 1, 7, none⟩ = some (.int .i64 E2.epoch) ∧ w'.cell? ⟨w.heap.size + 1, 8, none⟩ = some (.int .i64 E2.src))
      (first | (refine HS.out _ ?_; first | exact tq | exact Touch.drew_ tq | exact tt | exact Touch.drew_ tt))
      (first
        | (go_at_call 12; refine (RK.out _ _ _ ?_ ?_).mono ?_; (first | exact .inl rfl | exact .inr rfl); (first | exact tq | exact Touch.drew_ tq | exact tt | exact Touch.drew_ tt); rintro e wq ⟨rfl, tq⟩))
    all_goals
      go_wp2_with fail
      go_meet
      exact ⟨by rw [HB.out], by first | exact tq | exact Touch.drew_ tq⟩
  case rest =>
    obtain ⟨rfl, tc⟩ := hcut
    have tt := tc
    have hbb := HB.out.symm
    have HT6 := Lib.hid (HT5.out.trans tc (by simp))
    clear tc
    go_upto_region 5 with (fail)
    go_region_held3 (fun w' => w'.cell? ⟨w.heap.size, 0, none⟩ = some (.int .i64 E1.kind) ∧ w'.cell? ⟨w.heap.size, 1, none⟩ = some (.string E1.name) ∧ w'.cell? ⟨w.heap.size, 2, none⟩ = some (.int .u16 E1.type) ∧ w'.cell? ⟨w.heap.size, 3, none⟩ = some (.int .u16 E1.cls) ∧ w'.cell? ⟨w.heap.size, 4, none⟩ = some (.slice a3 E1.recs.length l3) ∧ w'.cell? ⟨w.heap.size, 5, none⟩ = some (.int .i64 E1.til) ∧ w'.cell? ⟨w.heap.size, 6, none⟩ = some (.int .i64 E1.rank) ∧ w'.cell? ⟨w.heap.size, 7, none⟩ = some (.int .i64 E1.epoch) ∧ w'.cell? ⟨w.heap.size, 8, none⟩ = some (.int .i64 E1.src) ∧ w'.cell? ⟨w.heap.size + 1, 0, none⟩ = some (.int .i64 E2.kind) ∧ w'.cell? ⟨w.heap.size + 1, 1, none⟩ = some (.string E2.name) ∧ w'.cell? ⟨w.heap.size + 1, 2, none⟩ = some (.int .u16 E2.type) ∧ w'.cell? ⟨w.heap.size + 1, 3, none⟩ = some (.int .u16 E2.cls) ∧ w'.cell? ⟨w.heap.size + 1, 4, none⟩ = some (.slice a4 E2.recs.length l4) ∧ w'.cell? ⟨w.heap.size + 1, 5, none⟩ = some (.int .i64 E2.til) ∧ w'.cell? ⟨w.heap.size + 1, 6, none⟩ = some (.int .i64 E2.rank) ∧ w'.cell? ⟨w.heap.size + 1, 7, none⟩ = some (.int .i64 E2.epoch) ∧ w'.cell? ⟨w.heap.size + 1, 8, none⟩ = some (.int .i64 E2.src))
      (first | (refine HS.out _ ?_; first | exact tq | exact Touch.drew_ tq | exact tt | exact Touch.drew_ tt))
      (first
        | (go_at_call 13; refine (CC.out _ ?_).mono ?_; (first | exact tq | exact Touch.drew_ tq | exact tt | exact Touch.drew_ tt); rintro e wq ⟨rfl, tq⟩)
        | (go_at_call 14; refine (RC.out _ ?_).mono ?_; (first | exact tq | exact Touch.drew_ tq | exact tt | exact Touch.drew_ tt); rintro e wq ⟨rfl, tq⟩)
        | (go_at_call 15; refine (CK.out _ _ _ ?_ ?_).mono ?_; (first | exact .inl rfl | exact .inr rfl); (first | exact tq | exact Touch.drew_ tq | exact tt | exact Touch.drew_ tt); rintro e wq ⟨rfl, tq⟩)
        | (go_at_call 12; refine (RK.out _ _ _ ?_ ?_).mono ?_; (first | exact .inl rfl | exact .inr rfl); (first | exact tq | exact Touch.drew_ tq | exact tt | exact Touch.drew_ tt); rintro e wq ⟨rfl, tq⟩))
    all_goals
      go_wp2_with fail
      go_ret
      exact ⟨rfl, HT5.out.trans (by first | exact tq | exact Touch.drew_ tq) (by simp)⟩
theorem checks_walk (c1 c2 : Array Value) (w : World) (h1 : Rd w 25 c1.toList) (h2 : Rd w 25 c2.toList) :
    Calls Try.prog 3 #[.agg c1, .agg c2] w fun e w' => e = .returned (.bool true) ∧ Touch [] w w' := by
  obtain ⟨e1, r1, rfl, a1⟩ := h1.entA
  obtain ⟨e2, r2, rfl, a2⟩ := h2.entA
  exact checks_any w e1 e2 r1 r2 a1 a2
end Go.Proofs.Ytibbfihnhlgkeaa

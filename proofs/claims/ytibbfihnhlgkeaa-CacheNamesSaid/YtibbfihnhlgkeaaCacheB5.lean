/- CacheNames: the walk. -/
import Derived.Test.YtibbfihnhlgkeaaCacheB4
namespace Go.Proofs.Ytibbfihnhlgkeaa
open Go.RowKit Go.Maps Go.WideMaps
open NM (Bs bs ofBs)
open CM (It C)

set_option maxRecDepth 10000 in
set_option maxHeartbeats 4000000 in
theorem names_any (w : World) (e1 : CM.E) (r1 : Value) (h1 : ArgE w e1 r1) (t cl : Int) (ht : 0 ≤ t ∧ t ≤ 65535) (hcl : 0 ≤ cl ∧ cl ≤ 65535) :
    Calls Try.prog 6 #[.agg (entV e1 r1), .int .u16 t, .int .u16 cl] w fun e w' => e = .returned (.bool true) ∧ Touch [] w w' := by
  have T0 := (Touch.refl [] w).alloc (.cells (entV e1 r1) 25)
  have b1 : Blk (w.alloc (.cells (entV e1 r1) 25)) w.heap.size 25 (entV e1 r1) := Blk.new w _ _
  obtain ⟨W0, hW0⟩ : ∃ W0, W0 = w.alloc (.cells (entV e1 r1) 25) := ⟨_, rfl⟩
  rw [← hW0] at T0 b1
  obtain ⟨a1, l1, rfl⟩ : ∃ a l, r1 = .slice a e1.recs.length l := by obtain ⟨a, c, h, _⟩ := h1.recs; exact ⟨a, c, h⟩
  have HW0 := Lib.hid hW0
  have HTC := Lib.hid (And.intro ht hcl)
  obtain ⟨E, FE, NE, SM, SA⟩ : ∃ E : CM.E, EFits E ∧ E.name.size ≤ 300 ∧
      (∀ W, Touch [] w W → Calls Try.prog 11 #[.agg (entV e1 (.slice a1 e1.recs.length l1))] W fun e w' => ∃ a c, e = .returned (.agg (entV E (.slice a E.recs.length c))) ∧ w'.ownsRow W.heap.size 68 5 (.slice a E.recs.length c) E.recs.length (flat E.recs) ∧ Touch [] W w') ∧
      (∀ W B a c, W.ownsRow B 68 5 (.slice a E.recs.length c) E.recs.length (flat E.recs) → ArgE W E (.slice a E.recs.length c)) :=
    ⟨smallE e1, smallE_fits e1, (smallE_size e1).1, fun W T => small_in w e1 _ h1 W T, fun W B a c h => small_arg h h1.ty h1.cls⟩
  have HSM := Lib.hid SM
  have HSA := Lib.hid (And.intro SA (And.intro FE NE))
  have HB0 := Lib.hid b1
  have HT0 := Lib.hid T0
  clear SM SA FE NE b1 T0 hW0 h1 ht hcl
  go_enter Try.func6, Try.ntmps6
  go_upto_region 1 with (fail)
  rw [← HW0.out]
  go_wp2_with fail
  refine (awake_any _).mono ?_
  rintro e w1 ⟨rfl, T1⟩
  have HT1 := Lib.hid (HT0.out.trans T1 (by simp))
  have HB1 := Lib.hid (T1.blk HB0.out (by simp))
  clear T1
  go_wp2_with (refine wpList_load_row rfl 25 (.tmp 3) rfl w.heap.size rfl 25 (entV e1 (.slice a1 e1.recs.length l1)) (0, 0) _ HB1.out Try.underlying25 rfl (by kernel_rfl) ?_)
  refine (HSM.out w1 HT1.out).mono ?_
  rintro e w2 ⟨a3, l3, rfl, hown3, T2⟩
  have HT2 := Lib.hid (HT1.out.trans T2 (by simp))
  have HB2 := Lib.hid (T2.blk HB1.out (by simp))
  clear T2
  obtain ⟨w3, hw3⟩ : ∃ W, W = w2.setRow w.heap.size (entV E (.slice a3 E.recs.length l3)) := ⟨_, rfl⟩
  have t3 : Touch [] w w3 := by rw [hw3]; exact HT2.out.row _ _ (.inr (Nat.le_refl _))
  have s3 : Touch [w.heap.size] w2 w3 := by rw [hw3]; exact (Touch.refl _ _).row _ _ (.inl (by simp))
  have HB3 := Lib.hid (show Blk w3 w.heap.size 25 (entV E (.slice a3 E.recs.length l3)) from by rw [hw3]; exact HB2.out.row _)
  have HR3 := Lib.hid (row_keep hown3 HB2.out (by decide) s3)
  have HT3 := Lib.hid t3
  have HW3 := Lib.hid hw3
  clear hown3 t3 s3 hw3
  go_wp2_with (refine wpList_store_rowTo rfl 25 (.tmp 3) (.tmp 23) rfl rfl w.heap.size (entV E (.slice a3 E.recs.length l3)) rfl rfl 25 (entV e1 (.slice a1 e1.recs.length l1)) HB2.out (by kernel_rfl) rfl (entV_cells _ _ _ _) ?_; rw [← HW3.out])
  refine (onew w w3 HT3.out 9).mono ?_
  rintro e w4 ⟨B, rfl, O4, T4⟩
  have HO4 := Lib.hid (show OC w w4 B ⟨9, 0, []⟩ from O4)
  have HT4 := Lib.hid (HT3.out.trans T4 (by simp))
  have HB4 := Lib.hid (T4.blk HB3.out (by simp))
  have HR4 := Lib.hid (trow_touch HR3.out T4 (by simp))
  clear O4 T4
  have HAE := Lib.hid (HSA.out.1 _ _ _ _ HR4.out)
  have HCK := Lib.hid (ccheck_any w4 E (.slice a3 E.recs.length l3) HSA.out.2.1 HAE.out.recs)
  obtain ⟨q1, hq1⟩ : ∃ q, q = CM.check E := ⟨_, rfl⟩
  rw [← hq1] at HCK
  have HQ1 := Lib.hid hq1
  clear hq1
  obtain ⟨k0, k1, k2, k3, k4, k5, k6, k7, k8⟩ := entCells HB4.out
  go_wp2_with fail
  refine HCK.out.mono ?_
  rintro e w5 ⟨rfl, T5⟩
  have HT5 := Lib.hid (HT4.out.trans T5 (by simp))
  have HB5 := Lib.hid (T5.blk HB4.out (by simp))
  have HR5 := Lib.hid (trow_touch HR4.out T5 (by simp))
  have HO5 := Lib.hid (HO4.out.quiet T5)
  clear T5 k0 k1 k2 k3 k4 k5 k6 k7 k8
  by_cases hc : q1 = 0
  case neg =>
    have hcn : (q1 != 0) = true := by simpa using hc
    clear hc
    go_wp2_with fail
    go_ret
    exact ⟨rfl, HT5.out⟩
  subst hc
  have HCE := Lib.hid HQ1.out.symm
  obtain ⟨k0, k1, k2, k3, k4, k5, k6, k7, k8⟩ := entCells HB5.out
  go_wp2_with fail
  refine (oput w w5 B _ HO5.out E (.slice a3 E.recs.length l3) 0 HSA.out.2.1 (HSA.out.1 _ _ _ _ HR5.out).recs (Far.of_row HR5.out) HAE.out.ty HAE.out.cls (by simp)).mono ?_
  rintro e w6 ⟨S6, h6, ⟨hm, _⟩ | ⟨hm, x, hxe, hxk, _, O6⟩⟩
  · refine no_tf hm ?_
    unfold CM.mayPut
    rw [CM.refused_nil _ rfl, decide_eq_true ⟨HCE.out, (check_name HCE.out).2.2.1⟩]
    rfl
  rw [hm] at h6
  subst h6
  have HT6 := Lib.hid (S6.touch HT5.out)
  have HB6 := Lib.hid (S6.blk HB5.out (by decide) (by decide) (by decide))
  have HR6 := Lib.hid (S6.row HR5.out (by decide) (by decide) (by decide))
  obtain ⟨c6, hc6⟩ : ∃ c, c = CM.put ⟨9, 0, []⟩ x 0 := ⟨_, rfl⟩
  rw [← hc6] at O6
  have HO6 := Lib.hid O6
  have HC6 := Lib.hid (show c6.uses = 1 ∧ c6.h = [{ x with used := 1 }] by rw [hc6]; exact ⟨rfl, CM.put_nil _ rfl x 0⟩)
  have HX := Lib.hid (And.intro hxe hxk)
  clear S6 O6 hm hc6 hxe hxk k0 k1 k2 k3 k4 k5 k6 k7 k8
  have k1 : w6.cell? ⟨w.heap.size, 1, none⟩ = some (.string E.name) := HB6.out.cell 1
  go_wp2_with fail
  refine (rlower_any w6 E.name (by have := HSA.out.2.2; omega)).mono ?_
  rintro e w7 ⟨rfl, T7⟩
  obtain ⟨low, hlow⟩ : ∃ s, s = ofBs (NM.lower (bs E.name)) := ⟨_, rfl⟩
  rw [← hlow]
  have HLW := Lib.hid (show bs low = NM.lower (bs E.name) by rw [hlow, NM.bs_ofBs])
  have HLS := Lib.hid (show low.size ≤ 1000000000000 by
    rw [hlow, NM.ofBs_size]
    unfold NM.lower
    rw [List.length_map, NM.bs_length]
    have := HSA.out.2.2
    omega)
  have HT7 := Lib.hid (HT6.out.trans T7 (by simp))
  have HB7 := Lib.hid (T7.blk HB6.out (by simp))
  have HR7 := Lib.hid (trow_touch HR6.out T7 (by simp))
  have HO7 := Lib.hid (HO6.out.quiet T7)
  have HTD := Lib.hid (fun t cl ht hcl => names_told E HCE.out HAE.out.ty HAE.out.cls t cl ht hcl low HLW.out c6 _ HC6.out.2 HX.out.1 HX.out.2)
  clear T7 hlow k1
  have k2 : w7.cell? ⟨w.heap.size, 2, none⟩ = some (.int .u16 E.type) := HB7.out.cell 2
  have k3 : w7.cell? ⟨w.heap.size, 3, none⟩ = some (.int .u16 E.cls) := HB7.out.cell 3
  go_wp2_with fail
  refine (ogetI w w7 B c6 HO7.out low HLS.out E.type E.cls HAE.out.ty HAE.out.cls 0 (by have := HC6.out.1;  omega)).mono ?_
  rintro e x1 ⟨E1, aa1, cp1, c1, rfl, hE1, row1, O1, _, hu1, hte1, _, S1, hlen1⟩
  obtain ⟨o1, ho1⟩ : ∃ o, o = TE c6 (ofBs (CM.keyB 0 (bs low) E.type E.cls)) 0 := ⟨_, rfl⟩
  rw [← ho1] at hE1 ⊢
  have HO1e := Lib.hid (And.intro (show o1 = TE c6 (ofBs (CM.keyB 0 (bs low) E.type E.cls)) 0 by rw [ho1]) hE1)
  have HU1 := Lib.hid hu1
  have HLN1 := Lib.hid (show E1.recs.length ≤ 1000000 by omega)
  have HTE1 := Lib.hid hte1
  obtain ⟨b1, hb1⟩ : ∃ b, b = o1.isSome := ⟨_, rfl⟩
  rw [← hb1]
  have HBb1 := Lib.hid hb1
  have HE1 := Lib.hid (Blk.new x1 25 zeroE)
  obtain ⟨y1, hy1⟩ : ∃ W, W = (x1.alloc (.cells zeroE 25)).setRow x1.heap.size (entV E1 (.slice aa1 E1.recs.length cp1)) := ⟨_, rfl⟩
  have tl1 : Touch [] x1 y1 := by rw [hy1]; exact laid_t _ _
  have HOy1 := Lib.hid (show OC w y1 B c1 by rw [hy1]; exact O1.laid _)
  have HTy1 := Lib.hid ((S1.touch HT7.out).trans tl1 (by simp))
  have HD1 := Lib.hid (show Blk y1 x1.heap.size 25 (entV E1 (.slice aa1 E1.recs.length cp1)) by rw [hy1]; exact (Blk.new x1 25 zeroE).row _)
  have HRw1 := Lib.hid (trow_touch row1 tl1 (by simp))
  have HZ10 := Lib.hid (tl1.blk (S1.blk HB7.out (by decide) (by decide) (by decide)) (by simp))
  have HV10 := Lib.hid (trow_touch (S1.row HR7.out (by decide) (by decide) (by decide)) tl1 (by simp))
  have HY1 := Lib.hid hy1
  clear hlen1 hE1 row1 O1 hu1 hte1 S1 ho1 hb1 hy1 tl1 k2 k3
  have k3 : y1.cell? ⟨w.heap.size, 3, none⟩ = some (.int .u16 E.cls) := HZ10.out.cell 3
  have k2 := k3
  go_wp2_with (refine wpList_store_rowTo rfl 25 (.tmp 10) (.tmp 54) rfl rfl x1.heap.size (entV E1 (.slice aa1 E1.recs.length cp1)) rfl rfl 25 zeroE HE1.out (by kernel_rfl) rfl (entV_cells _ _ _ _) ?_; rw [← HY1.out])
  refine (onameI w y1 B c1 HOy1.out low HLS.out E.cls HAE.out.cls 0 (by have := HC6.out.1; have := HU1.out; omega)).mono ?_
  rintro e x2 ⟨E2, aa2, cp2, c2, rfl, hE2, row2, O2, _, hu2, hte2, _, S2, hlen2⟩
  obtain ⟨o2, ho2⟩ : ∃ o, o = TE c1 (ofBs (CM.keyB 1 (bs low) 0 E.cls)) 0 := ⟨_, rfl⟩
  rw [← ho2] at hE2 ⊢
  have HO2e := Lib.hid (And.intro (show o2 = TE c6 (ofBs (CM.keyB 1 (bs low) 0 E.cls)) 0 by rw [ho2, HTE1.out]) hE2)
  have HU2 := Lib.hid hu2
  have HLN2 := Lib.hid (show E2.recs.length ≤ 1000000 by omega)
  have HTE2 := Lib.hid hte2
  obtain ⟨b2, hb2⟩ : ∃ b, b = o2.isSome := ⟨_, rfl⟩
  rw [← hb2]
  have HBb2 := Lib.hid hb2
  have HE2 := Lib.hid (Blk.new x2 25 zeroE)
  obtain ⟨y2, hy2⟩ : ∃ W, W = (x2.alloc (.cells zeroE 25)).setRow x2.heap.size (entV E2 (.slice aa2 E2.recs.length cp2)) := ⟨_, rfl⟩
  have tl2 : Touch [] x2 y2 := by rw [hy2]; exact laid_t _ _
  have HOy2 := Lib.hid (show OC w y2 B c2 by rw [hy2]; exact O2.laid _)
  have HTy2 := Lib.hid ((S2.touch HTy1.out).trans tl2 (by simp))
  have HD2 := Lib.hid (show Blk y2 x2.heap.size 25 (entV E2 (.slice aa2 E2.recs.length cp2)) by rw [hy2]; exact (Blk.new x2 25 zeroE).row _)
  have HRw2 := Lib.hid (trow_touch row2 tl2 (by simp))
  have HZ20 := Lib.hid (tl2.blk (S2.blk HZ10.out (by decide) (by decide) (by decide)) (by simp))
  have HZ21 := Lib.hid (tl2.blk (S2.blk HD1.out (by decide) (by decide) (by decide)) (by simp))
  have HV20 := Lib.hid (trow_touch (S2.row HV10.out (by decide) (by decide) (by decide)) tl2 (by simp))
  have HV21 := Lib.hid (trow_touch (S2.row HRw1.out (by decide) (by decide) (by decide)) tl2 (by simp))
  have HY2 := Lib.hid hy2
  clear hlen2 hE2 row2 O2 hu2 hte2 S2 ho2 hb2 hy2 tl2 k2 k3
  have k2 := True.intro
  have k3 := True.intro
  go_wp2_with (refine wpList_store_rowTo rfl 25 (.tmp 12) (.tmp 62) rfl rfl x2.heap.size (entV E2 (.slice aa2 E2.recs.length cp2)) rfl rfl 25 zeroE HE2.out (by kernel_rfl) rfl (entV_cells _ _ _ _) ?_; rw [← HY2.out])
  refine (ogetI w y2 B c2 HOy2.out low HLS.out t cl HTC.out.1 HTC.out.2 0 (by have := HC6.out.1; have := HU1.out; have := HU2.out; omega)).mono ?_
  rintro e x3 ⟨E3, aa3, cp3, c3, rfl, hE3, row3, O3, _, hu3, hte3, _, S3, hlen3⟩
  obtain ⟨o3, ho3⟩ : ∃ o, o = TE c2 (ofBs (CM.keyB 0 (bs low) t cl)) 0 := ⟨_, rfl⟩
  rw [← ho3] at hE3 ⊢
  have HO3e := Lib.hid (And.intro (show o3 = TE c6 (ofBs (CM.keyB 0 (bs low) t cl)) 0 by rw [ho3, HTE2.out, HTE1.out]) hE3)
  have HU3 := Lib.hid hu3
  have HLN3 := Lib.hid (show E3.recs.length ≤ 1000000 by omega)
  have HTE3 := Lib.hid hte3
  obtain ⟨b3, hb3⟩ : ∃ b, b = o3.isSome := ⟨_, rfl⟩
  rw [← hb3]
  have HBb3 := Lib.hid hb3
  have HE3 := Lib.hid (Blk.new x3 25 zeroE)
  obtain ⟨y3, hy3⟩ : ∃ W, W = (x3.alloc (.cells zeroE 25)).setRow x3.heap.size (entV E3 (.slice aa3 E3.recs.length cp3)) := ⟨_, rfl⟩
  have tl3 : Touch [] x3 y3 := by rw [hy3]; exact laid_t _ _
  have HOy3 := Lib.hid (show OC w y3 B c3 by rw [hy3]; exact O3.laid _)
  have HTy3 := Lib.hid ((S3.touch HTy2.out).trans tl3 (by simp))
  have HD3 := Lib.hid (show Blk y3 x3.heap.size 25 (entV E3 (.slice aa3 E3.recs.length cp3)) by rw [hy3]; exact (Blk.new x3 25 zeroE).row _)
  have HRw3 := Lib.hid (trow_touch row3 tl3 (by simp))
  have HZ30 := Lib.hid (tl3.blk (S3.blk HZ20.out (by decide) (by decide) (by decide)) (by simp))
  have HZ31 := Lib.hid (tl3.blk (S3.blk HZ21.out (by decide) (by decide) (by decide)) (by simp))
  have HZ32 := Lib.hid (tl3.blk (S3.blk HD2.out (by decide) (by decide) (by decide)) (by simp))
  have HV30 := Lib.hid (trow_touch (S3.row HV20.out (by decide) (by decide) (by decide)) tl3 (by simp))
  have HV31 := Lib.hid (trow_touch (S3.row HV21.out (by decide) (by decide) (by decide)) tl3 (by simp))
  have HV32 := Lib.hid (trow_touch (S3.row HRw2.out (by decide) (by decide) (by decide)) tl3 (by simp))
  have HY3 := Lib.hid hy3
  clear hlen3 hE3 row3 O3 hu3 hte3 S3 ho3 hb3 hy3 tl3 k2 k3
  have k2 := True.intro
  have k3 := True.intro
  go_wp2_with (refine wpList_store_rowTo rfl 25 (.tmp 14) (.tmp 70) rfl rfl x3.heap.size (entV E3 (.slice aa3 E3.recs.length cp3)) rfl rfl 25 zeroE HE3.out (by kernel_rfl) rfl (entV_cells _ _ _ _) ?_; rw [← HY3.out])
  refine (onameI w y3 B c3 HOy3.out low HLS.out cl HTC.out.2 0 (by have := HC6.out.1; have := HU1.out; have := HU2.out; have := HU3.out; omega)).mono ?_
  rintro e x4 ⟨E4, aa4, cp4, c4, rfl, hE4, row4, O4, _, hu4, hte4, _, S4, hlen4⟩
  obtain ⟨o4, ho4⟩ : ∃ o, o = TE c3 (ofBs (CM.keyB 1 (bs low) 0 cl)) 0 := ⟨_, rfl⟩
  rw [← ho4] at hE4 ⊢
  have HO4e := Lib.hid (And.intro (show o4 = TE c6 (ofBs (CM.keyB 1 (bs low) 0 cl)) 0 by rw [ho4, HTE3.out, HTE2.out, HTE1.out]) hE4)
  have HU4 := Lib.hid hu4
  have HLN4 := Lib.hid (show E4.recs.length ≤ 1000000 by omega)
  have HTE4 := Lib.hid hte4
  obtain ⟨b4, hb4⟩ : ∃ b, b = o4.isSome := ⟨_, rfl⟩
  rw [← hb4]
  have HBb4 := Lib.hid hb4
  have HE4 := Lib.hid (Blk.new x4 25 zeroE)
  obtain ⟨y4, hy4⟩ : ∃ W, W = (x4.alloc (.cells zeroE 25)).setRow x4.heap.size (entV E4 (.slice aa4 E4.recs.length cp4)) := ⟨_, rfl⟩
  have tl4 : Touch [] x4 y4 := by rw [hy4]; exact laid_t _ _
  have HOy4 := Lib.hid (show OC w y4 B c4 by rw [hy4]; exact O4.laid _)
  have HTy4 := Lib.hid ((S4.touch HTy3.out).trans tl4 (by simp))
  have HD4 := Lib.hid (show Blk y4 x4.heap.size 25 (entV E4 (.slice aa4 E4.recs.length cp4)) by rw [hy4]; exact (Blk.new x4 25 zeroE).row _)
  have HRw4 := Lib.hid (trow_touch row4 tl4 (by simp))
  have HZ40 := Lib.hid (tl4.blk (S4.blk HZ30.out (by decide) (by decide) (by decide)) (by simp))
  have HZ41 := Lib.hid (tl4.blk (S4.blk HZ31.out (by decide) (by decide) (by decide)) (by simp))
  have HZ42 := Lib.hid (tl4.blk (S4.blk HZ32.out (by decide) (by decide) (by decide)) (by simp))
  have HV40 := Lib.hid (trow_touch (S4.row HV30.out (by decide) (by decide) (by decide)) tl4 (by simp))
  have HV41 := Lib.hid (trow_touch (S4.row HV31.out (by decide) (by decide) (by decide)) tl4 (by simp))
  have HV42 := Lib.hid (trow_touch (S4.row HV32.out (by decide) (by decide) (by decide)) tl4 (by simp))
  have HY4 := Lib.hid hy4
  clear hlen4 hE4 row4 O4 hu4 hte4 S4 ho4 hb4 hy4 tl4 
  clear HU1 HU2 HU3
  have k0 : y4.cell? ⟨w.heap.size, 0, none⟩ = some (.int .i64 E.kind) := HZ40.out.cell 0
  obtain ⟨kd, hkd⟩ : ∃ k, k = E.kind := ⟨_, rfl⟩
  rw [← hkd] at k0
  have HKD := Lib.hid hkd
  have HS1 := Lib.hid (same_any y4 E1 E _ _ (RecsAt.of_row HV41.out).1 (RecsAt.of_row HV40.out).1 HLN1.out)
  have HS2 := Lib.hid (fun W (t : Touch [] y4 W) => same_any W E2 E _ _ ((RecsAt.of_row HV42.out).1.touch0 t) ((RecsAt.of_row HV40.out).1.touch0 t) HLN2.out)
  clear hkd
  go_upto_region 12 with (refine wpList_store_rowTo rfl 25 (.tmp 16) (.tmp 77) rfl rfl x4.heap.size (entV E4 (.slice aa4 E4.recs.length cp4)) rfl rfl 25 zeroE HE4.out (by kernel_rfl) rfl (entV_cells _ _ _ _) ?_; rw [← HY4.out])
  go_wp2_with (first
    | (refine wpList_load_row rfl 25 (.tmp 10) rfl x1.heap.size rfl 25 (entV E1 (.slice aa1 E1.recs.length cp1)) (0, 0) _ HZ41.out Try.underlying25 rfl (by kernel_rfl) ?_)
    | (refine wpList_load_row rfl 25 (.tmp 3) rfl w.heap.size rfl 25 (entV E (.slice a3 E.recs.length l3)) (0, 0) _ HZ40.out Try.underlying25 rfl (by kernel_rfl) ?_))
  refine HS1.out.mono ?_
  rintro e z1 ⟨⟨s1, rfl, hs1⟩, Tz1⟩
  have HZ1 := Lib.hid (And.intro hs1 (And.intro Tz1 (And.intro (Tz1.blk HZ40.out (by simp)) (Tz1.blk HZ42.out (by simp)))))
  clear hs1 Tz1 k0
  go_wp2_with (first
    | (refine wpList_load_row rfl 25 (.tmp 12) rfl x2.heap.size rfl 25 (entV E2 (.slice aa2 E2.recs.length cp2)) (0, 0) _ HZ1.out.2.2.2 Try.underlying25 rfl (by kernel_rfl) ?_)
    | (refine wpList_load_row rfl 25 (.tmp 3) rfl w.heap.size rfl 25 (entV E (.slice a3 E.recs.length l3)) (0, 0) _ HZ1.out.2.2.1 Try.underlying25 rfl (by kernel_rfl) ?_))
  refine (HS2.out _ HZ1.out.2.1).mono ?_
  rintro e z2 ⟨⟨s2, rfl, hs2⟩, Tz2⟩
  have HZ2 := Lib.hid (And.intro hs2 (And.intro Tz2 (Tz2.blk HZ1.out.2.2.1 (by simp))))
  have HTF := Lib.hid ((HTy4.out.trans HZ1.out.2.1 (by simp)).trans Tz2 (by simp))
  clear hs2 Tz2
  have k2 : z2.cell? ⟨w.heap.size, 2, none⟩ = some (.int .u16 E.type) := HZ2.out.2.2.cell 2
  have k3 : z2.cell? ⟨w.heap.size, 3, none⟩ = some (.int .u16 E.cls) := HZ2.out.2.2.cell 3
  obtain ⟨T, hT⟩ : ∃ k, k = E.type := ⟨_, rfl⟩
  obtain ⟨G, hG⟩ : ∃ k, k = E.cls := ⟨_, rfl⟩
  rw [← hT] at k2
  rw [← hG] at k3
  have H1 := HO1e.out.1.trans (HTD.out E.type E.cls HAE.out.ty HAE.out.cls).1
  have H2 := HO2e.out.1.trans (HTD.out E.type E.cls HAE.out.ty HAE.out.cls).2
  have H3 := HO3e.out.1.trans (HTD.out t cl HTC.out.1 HTC.out.2).1
  have H4 := HO4e.out.1.trans (HTD.out t cl HTC.out.1 HTC.out.2).2
  rw [← HKD.out] at H1 H2 H3 H4
  rw [← hT, ← hG] at H3
  rw [← hG] at H4
  rw [if_pos (show E.type = E.type ∧ E.cls = E.cls from ⟨rfl, rfl⟩)] at H1
  rw [if_pos (show E.cls = E.cls from rfl)] at H2
  have B1 := HBb1.out
  have B2 := HBb2.out
  have B3 := HBb3.out
  have B4 := HBb4.out
  clear hT hG
  by_cases h3 : kd = 3
  · rw [if_pos h3] at H1 H2 H3 H4
    rw [H1] at B1
    rw [H3] at B3
    have hE2 : E2 = E := HO2e.out.2 E H2
    rw [H2] at B2
    rw [H4] at B4
    have hs : s2 = true := HZ2.out.1.2 hE2
    have hk3 : (kd == 3) = true := by simpa using h3
    simp only [Option.isSome_none, Option.isSome_some] at B1 B2 B3
    subst B1 B2 B3 hs
    clear H1 H2 H3 H4 h3 hE2
    by_cases h4 : cl = G
    · have h5 : (cl == G) = true := by simpa using h4
      rw [if_pos h4] at B4
      simp only [Option.isSome_some] at B4
      subst B4
      clear h4
      go_wp2_with fail
      go_ret
      exact ⟨rfl, HTF.out⟩
    · have h5 : (cl == G) = false := by simpa using h4
      rw [if_neg h4] at B4
      simp only [Option.isSome_none] at B4
      subst B4
      clear h4
      go_wp2_with fail
      go_ret
      exact ⟨rfl, HTF.out⟩
  · rw [if_neg h3] at H1 H2 H3 H4
    rw [H2] at B2
    rw [H4] at B4
    have hE1 : E1 = E := HO1e.out.2 E H1
    rw [H1] at B1
    rw [H3] at B3
    have hs : s1 = true := HZ1.out.1.2 hE1
    have hk3 : (kd == 3) = false := by simpa using h3
    simp only [Option.isSome_none, Option.isSome_some] at B1 B2 B4
    subst B1 B2 B4 hs
    clear H1 H2 H3 H4 h3 hE1
    by_cases h6 : t = T
    · have h7 : (t == T) = true := by simpa using h6
      by_cases h4 : cl = G
      · have h5 : (cl == G) = true := by simpa using h4
        rw [if_pos ⟨h6, h4⟩] at B3
        simp only [Option.isSome_some] at B3
        subst B3
        clear h4 h6
        go_wp2_with fail
        go_ret
        exact ⟨rfl, HTF.out⟩
      · have h5 : (cl == G) = false := by simpa using h4
        rw [if_neg (fun h => h4 h.2)] at B3
        simp only [Option.isSome_none] at B3
        subst B3
        clear h4 h6
        go_wp2_with fail
        go_ret
        exact ⟨rfl, HTF.out⟩
    · have h7 : (t == T) = false := by simpa using h6
      rw [if_neg (fun h => h6 h.1)] at B3
      simp only [Option.isSome_none] at B3
      subst B3
      clear h6
      go_wp2_with fail
      go_ret
      exact ⟨rfl, HTF.out⟩
theorem names_walk (c1 : Array Value) (t cl : Int) (w : World) (h1 : Rd w 25 c1.toList) (ht : (Lit.int .u16 t).wf = true) (hc : (Lit.int .u16 cl).wf = true) :
    Calls Try.prog 6 #[.agg c1, .int .u16 t, .int .u16 cl] w fun e w' => e = .returned (.bool true) ∧ Touch [] w w' := by
  obtain ⟨e1, r1, rfl, a1⟩ := h1.entA
  exact names_any w e1 r1 a1 t cl (u16_range ht) (u16_range hc)
end Go.Proofs.Ytibbfihnhlgkeaa

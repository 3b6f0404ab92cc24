/- awake: the chapter's examples. -/
import Derived.Test.YtibbfihnhlgkeaaCacheA3
namespace Go.Proofs.Ytibbfihnhlgkeaa
open Go.RowKit Go.Maps Go.WideMaps
open NM (Bs bs ofBs)
open CM (It C)

/-- Put of an entry of the law's -/
theorem oputE (w0 w : World) (B : Nat) (c : C) (h : OC w0 w B c) (b : Nat) (hb : b < 256) (til rank src : Int) (g : Nat) (hg : Blk w g 68 (recV (entR b))) (now : Int) (hu : c.uses ≤ 1099511627776) :
    Calls Try.prog 17 #[.pointer (some ⟨B, 0, none⟩), .agg (entV { entE b til with rank := rank, src := src } (.slice (some ⟨g, 0, none⟩) 1 1)), .int .i64 now] w fun e1 w' => CStep w0 w w' ∧ Ending.returned (.bool (CM.mayPut c { entE b til with rank := rank, src := src } now)) = e1 ∧
      ((CM.mayPut c { entE b til with rank := rank, src := src } now = false ∧ OC w0 w' B c) ∨
       (CM.mayPut c { entE b til with rank := rank, src := src } now = true ∧ ∃ (gx : Nat) (rv : Value) (u : Int), (∀ y ∈ c.h, y.g ≠ gx) ∧ OC w0 w' B (CM.put c ⟨gx, { entE b til with rank := rank, src := src }, rv, CM.key (entE b til), u⟩ now))) := by
  have hr := ent_recs (til := til) hg
  refine (oput w0 w B c h { entE b til with rank := rank, src := src } _ now (ent_fits b til rank src) (RecsAt.of_row hr).1 (Far.of_row hr) (by show (0:Int) ≤ 1 ∧ (1:Int) ≤ 65535; omega) (by show (0:Int) ≤ 1 ∧ (1:Int) ≤ 65535; omega) hu).mono ?_
  rintro e1 w' ⟨h1, h2, h3 | ⟨h3, x, h4, h5, h6, h7⟩⟩
  · exact ⟨h1, h2, .inl h3⟩
  · obtain ⟨gx, ex, rv, kx, u⟩ := x
    simp only at h4 h5 h6
    subst h4
    subst h5
    exact ⟨h1, h2, .inr ⟨h3, gx, rv, u, h6, h7⟩⟩
theorem no_tf {P : Prop} {b : Bool} (h1 : b = false) (h2 : b = true) : P := by rw [h1] at h2; cases h2
set_option maxRecDepth 10000 in
set_option maxHeartbeats 4000000 in
theorem awake_any (w : World) : Calls Try.prog 10 #[] w fun e w' => e = .returned (.bool true) ∧ Touch [] w w' := by
  go_enter Try.func10, Try.ntmps10
  go_wp2_with fail
  refine (onew w w (Touch.refl _ _) 2).mono ?_
  rintro e w1 ⟨B, rfl, O1, T1⟩
  have HO1 := Lib.hid (show OC w w1 B ⟨2, 0, []⟩ from O1)
  have HT1 := Lib.hid T1
  clear O1 T1
  go_wp2_with fail
  refine (entry_any _ 97 (by omega) 100).mono ?_
  rintro e w2 ⟨g2, rfl, _, b2, T2⟩
  have HO2 := Lib.hid (HO1.out.quiet T2)
  have HT2 := Lib.hid (HT1.out.trans T2 (by simp))
  have HB2 := Lib.hid b2
  clear T2 b2
  go_wp2_with fail
  refine (oputE w w2 B _ HO2.out 97 (by omega) 100 3 0 g2 HB2.out 0 (by simp)).mono ?_
  rintro e w3 ⟨S3, h3, ⟨hm, _⟩ | ⟨hm, gx97, rv97, u, _, O3⟩⟩
  · exact no_tf hm (aw_may1)
  have HT3 := Lib.hid (S3.touch HT2.out)
  have HO3 := Lib.hid (show OC w w3 B ⟨2, 1, [entX 97 100 gx97 rv97 1]⟩ from by rw [← aw_put1 gx97 rv97 u]; exact O3)
  rw [hm] at h3
  subst h3
  clear S3 O3 hm
  go_wp2_with fail
  refine (oget w w3 B _ HO3.out ⟨#[1, 65, 0]⟩ (by decide) 1 1 100 (by simp)).mono ?_
  rintro e w4 ⟨S4, H4⟩
  rw [aw_tell1] at H4
  rcases H4 with ⟨h4, _⟩ | ⟨x4, a4, cp4, h4, rfl, _, O4⟩
  · cases h4
  obtain rfl := Option.some.inj h4
  have HO4 := Lib.hid (show OC w w4 B ⟨2, 2, [entX 97 100 gx97 rv97 2]⟩ from by rw [← aw_used1 gx97 rv97]; exact O4)
  have HT4 := Lib.hid (S4.touch HT3.out)
  clear S4 O4
  have hB5 := Blk.new w4 25 zeroE
  obtain ⟨w5, hw5⟩ : ∃ W, W = (w4.alloc (.cells zeroE 25)).setRow w4.heap.size (entV (entE 97 100) (.slice a4 ((entE 97 100)).recs.length cp4)) := ⟨_, rfl⟩
  have HB5 := Lib.hid hB5
  have T5 : Touch [w4.heap.size] (w4.alloc (.cells zeroE 25)) w5 := by rw [hw5]; exact (Touch.refl _ _).row _ _ (.inl (by simp))
  have t5 := (Touch.refl [] w4).alloc (.cells zeroE 25)
  have HO5 := Lib.hid ((HO4.out.quiet t5).touch1 hB5 (by decide) (by decide) (by decide) (by decide) T5)
  have HT5 := Lib.hid ((HT4.out.trans t5 (by simp)).trans T5 (fun k hk => .inr (by simp at hk; rw [hk]; exact HT4.out.size)))
  have HW5 := Lib.hid hw5
  clear hB5 T5 t5 hw5
  go_wp2_with (refine wpList_store_rowTo rfl 25 (.tmp 3) (.tmp 21) rfl rfl w4.heap.size (entV (entE 97 100) (.slice a4 ((entE 97 100)).recs.length cp4)) rfl rfl 25 zeroE HB5.out (by kernel_rfl) rfl (entV_cells _ _ _ _) ?_; rw [← HW5.out])
  refine (oget w w5 B _ HO5.out ⟨#[1, 97, 0]⟩ (by decide) 1 1 101 (by simp)).mono ?_
  rintro e w6 ⟨S6, H6⟩
  rw [aw_tell2] at H6
  rcases H6 with ⟨_, rfl, O6⟩ | ⟨x6, a6, cp6, h6, _⟩
  rotate_left
  · cases h6
  have HO6 := Lib.hid O6
  have HT6 := Lib.hid (S6.touch HT5.out)
  clear S6 O6
  have hB7 := Blk.new w6 25 zeroE
  obtain ⟨w7, hw7⟩ : ∃ W, W = (w6.alloc (.cells zeroE 25)).setRow w6.heap.size zeroE := ⟨_, rfl⟩
  have HB7 := Lib.hid hB7
  have T7 : Touch [w6.heap.size] (w6.alloc (.cells zeroE 25)) w7 := by rw [hw7]; exact (Touch.refl _ _).row _ _ (.inl (by simp))
  have t7 := (Touch.refl [] w6).alloc (.cells zeroE 25)
  have HO7 := Lib.hid ((HO6.out.quiet t7).touch1 hB7 (by decide) (by decide) (by decide) (by decide) T7)
  have HT7 := Lib.hid ((HT6.out.trans t7 (by simp)).trans T7 (fun k hk => .inr (by simp at hk; rw [hk]; exact HT6.out.size)))
  have HW7 := Lib.hid hw7
  clear hB7 T7 t7 hw7
  go_wp2_with (refine wpList_store_rowTo rfl 25 (.tmp 5) (.tmp 26) rfl rfl w6.heap.size zeroE rfl rfl 25 zeroE HB7.out (by kernel_rfl) rfl (entV_cells ⟨0, ⟨#[]⟩, 0, 0, [], 0, 0, 0, 0⟩ none 0 0) ?_; rw [← HW7.out])
  refine (entry_any _ 98 (by omega) 100).mono ?_
  rintro e w8 ⟨g8, rfl, _, b8, T8⟩
  have HO8 := Lib.hid (HO7.out.quiet T8)
  have HT8 := Lib.hid (HT7.out.trans T8 (by simp))
  have HB8 := Lib.hid b8
  clear T8 b8
  go_wp2_with fail
  refine (oputE w w8 B _ HO8.out 98 (by omega) 100 3 0 g8 HB8.out 0 (by simp)).mono ?_
  rintro e w9 ⟨S9, h9, ⟨hm, _⟩ | ⟨hm, gx98, rv98, u, _, O9⟩⟩
  · exact no_tf hm (aw_may2 _ _)
  have HT9 := Lib.hid (S9.touch HT8.out)
  have HO9 := Lib.hid (show OC w w9 B ⟨2, 3, [entX 97 100 gx97 rv97 2, entX 98 100 gx98 rv98 3]⟩ from by rw [← aw_put2 gx97 gx98 rv97 rv98 u]; exact O9)
  rw [hm] at h9
  subst h9
  clear S9 O9 hm
  go_wp2_with fail
  refine (entry_any _ 99 (by omega) 100).mono ?_
  rintro e w10 ⟨g10, rfl, _, b10, T10⟩
  have HO10 := Lib.hid (HO9.out.quiet T10)
  have HT10 := Lib.hid (HT9.out.trans T10 (by simp))
  have HB10 := Lib.hid b10
  clear T10 b10
  go_wp2_with fail
  refine (oputE w w10 B _ HO10.out 99 (by omega) 100 3 0 g10 HB10.out 0 (by simp)).mono ?_
  rintro e w11 ⟨S11, h11, ⟨hm, _⟩ | ⟨hm, gx99, rv99, u, _, O11⟩⟩
  · exact no_tf hm (aw_may3 _ _ _ _)
  have HT11 := Lib.hid (S11.touch HT10.out)
  have HO11 := Lib.hid (show OC w w11 B ⟨2, 4, [entX 99 100 gx99 rv99 4, entX 98 100 gx98 rv98 3]⟩ from by rw [← aw_put3 gx97 gx98 gx99 rv97 rv98 rv99 u]; exact O11)
  rw [hm] at h11
  subst h11
  clear S11 O11 hm
  go_wp2_with fail
  refine (oget w w11 B _ HO11.out ⟨#[1, 97, 0]⟩ (by decide) 1 1 50 (by simp)).mono ?_
  rintro e w12 ⟨S12, H12⟩
  rw [aw_tell3] at H12
  rcases H12 with ⟨_, rfl, O12⟩ | ⟨x12, a12, cp12, h12, _⟩
  rotate_left
  · cases h12
  have HO12 := Lib.hid O12
  have HT12 := Lib.hid (S12.touch HT11.out)
  clear S12 O12
  have hB13 := Blk.new w12 25 zeroE
  obtain ⟨w13, hw13⟩ : ∃ W, W = (w12.alloc (.cells zeroE 25)).setRow w12.heap.size zeroE := ⟨_, rfl⟩
  have HB13 := Lib.hid hB13
  have T13 : Touch [w12.heap.size] (w12.alloc (.cells zeroE 25)) w13 := by rw [hw13]; exact (Touch.refl _ _).row _ _ (.inl (by simp))
  have t13 := (Touch.refl [] w12).alloc (.cells zeroE 25)
  have HO13 := Lib.hid ((HO12.out.quiet t13).touch1 hB13 (by decide) (by decide) (by decide) (by decide) T13)
  have HT13 := Lib.hid ((HT12.out.trans t13 (by simp)).trans T13 (fun k hk => .inr (by simp at hk; rw [hk]; exact HT12.out.size)))
  have HW13 := Lib.hid hw13
  clear hB13 T13 t13 hw13
  go_wp2_with (refine wpList_store_rowTo rfl 25 (.tmp 9) (.tmp 37) rfl rfl w12.heap.size zeroE rfl rfl 25 zeroE HB13.out (by kernel_rfl) rfl (entV_cells ⟨0, ⟨#[]⟩, 0, 0, [], 0, 0, 0, 0⟩ none 0 0) ?_; rw [← HW13.out])
  refine (entry_any _ 98 (by omega) 100).mono ?_
  rintro e wa ⟨ga, rfl, _, ba, Ta⟩
  have HOa := Lib.hid (HO13.out.quiet Ta)
  have HTa := Lib.hid (HT13.out.trans Ta (by simp))
  have HBa := Lib.hid ba
  clear Ta ba
  have hBb := Blk.new wa 25 zeroE
  have tb := (Touch.refl [] wa).alloc (.cells zeroE 25)
  have tb2 : Touch [wa.heap.size] (wa.alloc (.cells zeroE 25)) ((wa.alloc (.cells zeroE 25)).setRow wa.heap.size (entV (entE 98 100) (.slice (some ⟨ga, 0, none⟩) 1 1))) := (Touch.refl _ _).row _ _ (.inl (by simp))
  have hBc := hBb.row (entV (entE 98 100) (.slice (some ⟨ga, 0, none⟩) 1 1))
  obtain ⟨wb, hwb⟩ : ∃ W, W = (wa.alloc (.cells zeroE 25)).setRow wa.heap.size (entV (entE 98 100) (.slice (some ⟨ga, 0, none⟩) 1 1)) := ⟨_, rfl⟩
  rw [← hwb] at tb2 hBc
  have HOb := Lib.hid ((HOa.out.quiet tb).touch1 hBb (by decide) (by decide) (by decide) (by decide) tb2)
  have HTb := Lib.hid ((HTa.out.trans tb (by simp)).trans tb2 (fun k hk => .inr (by simp at hk; rw [hk]; exact HTa.out.size)))
  have HBr := Lib.hid (tb2.blk (tb.blk HBa.out (by simp)) (by have := HBa.out.lt; simp; omega))
  have HBb := Lib.hid hBb
  have HBc := Lib.hid hBc
  have HWb := Lib.hid hwb
  have f6 : wb.frozen? ⟨wa.heap.size, 6, none⟩ = false := hBc.frozen 6
  have c6 : wb.cell? ⟨wa.heap.size, 6, none⟩ = some (.int .i64 3) := hBc.cell 6
  have hBd : Blk (wb.setCell ⟨wa.heap.size, 6, none⟩ (.int .i64 2)) wa.heap.size 25 (entV { entE 98 100 with rank := 2, src := 0 } (.slice (some ⟨ga, 0, none⟩) 1 1)) := hBc.set_ 6 (.int .i64 2)
  have td : Touch [wa.heap.size] wb (wb.setCell ⟨wa.heap.size, 6, none⟩ (.int .i64 2)) := (Touch.refl _ wb).setCell ⟨wa.heap.size, 6, none⟩ _ (.inl (by simp))
  have HOd := Lib.hid (HOb.out.touch1 hBc (by decide) (by decide) (by decide) (by decide) td)
  have HTd := Lib.hid (HTb.out.trans td (fun k hk => .inr (by simp at hk; rw [hk]; exact HTa.out.size)))
  have HBs := Lib.hid (td.blk HBr.out (by have := HBa.out.lt; simp; omega))
  obtain ⟨k0, k1, k2, k3, k4, k5, k6, k7, k8⟩ := entCells hBd
  clear hBb tb tb2 hBc hwb hBd td
  go_wp2_with (refine wpList_store_rowTo rfl 25 (.tmp 11) (.tmp 39) rfl rfl wa.heap.size (entV (entE 98 100) (.slice (some ⟨ga, 0, none⟩) 1 1)) rfl rfl 25 zeroE HBb.out (by kernel_rfl) rfl (entV_cells _ _ _ _) ?_; rw [← HWb.out])
  refine (oputE w _ B _ HOd.out 98 (by omega) 100 2 0 ga HBs.out 0 (by simp)).mono ?_
  rintro e wc ⟨Sc, hc, ⟨hm, Oc⟩ | ⟨hm, _⟩⟩
  rotate_left
  · exact no_tf (aw_may4 _ _ _ _) hm
  have HTc := Lib.hid (Sc.touch HTd.out)
  have HOc := Lib.hid Oc
  rw [hm] at hc
  subst hc
  clear Sc Oc hm c6 f6 k0 k1 k2 k3 k4 k5 k6 k7 k8
  go_wp2_with fail
  refine (olen w _ B _ HOc.out).mono ?_
  rintro e wd ⟨rfl, rfl⟩
  go_wp2_with fail
  go_ret
  exact ⟨rfl, HTc.out⟩
end Go.Proofs.Ytibbfihnhlgkeaa

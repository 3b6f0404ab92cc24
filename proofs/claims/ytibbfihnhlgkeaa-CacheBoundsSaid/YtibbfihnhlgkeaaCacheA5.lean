/- small: an entry with no more than it may have. -/
import Derived.Test.YtibbfihnhlgkeaaCacheA4
import Derived.Test.YtibbfihnhlgkeaaArgs
namespace Go.Proofs.Ytibbfihnhlgkeaa
open Go.RowKit Go.Maps Go.WideMaps
open NM (Bs bs ofBs)
open CM (It C)

/-- an entry as it is handed in -/
structure ArgE (w : World) (e : CM.E) (rv : Value) : Prop where
  recs : RecsAt w rv e.recs
  name : e.name.size ≤ maxLen
  each : ∀ r ∈ e.recs, r.name.size ≤ maxLen ∧ r.data.size ≤ maxLen
  ty : 0 ≤ e.type ∧ e.type ≤ 65535
  cls : 0 ≤ e.cls ∧ e.cls ≤ 65535
theorem ArgE.touch {w w' : World} {e : CM.E} {rv : Value} (h : ArgE w e rv) (t : Touch [] w w') : ArgE w' e rv := ⟨h.recs.touch0 t, h.name, h.each, h.ty, h.cls⟩
theorem one_rec (W : World) (r : CM.R) : (W.alloc (.cells (recV r) 68)).ownsRow W.heap.size 68 5 (.slice (some ⟨W.heap.size, 0, none⟩) 1 1) 1 (flat [r]) :=
  ⟨by simp [flat, recV], .inr ⟨W.heap.size, 1, _, rfl, Nat.le_refl _, Blk.new W 68 (recV r), Nat.le_refl _, by unfold maxLen; omega, rfl, by simp [flat, recV]⟩⟩
theorem one_news (W : World) (r : CM.R) (ad : Addr) (had : ad = ⟨W.heap.size, 0, none⟩) : ∀ j u, (flat [r])[j]? = some u → (W.alloc (.cells (recV r) 68)).cell? (ad.add j) = some u := (RecsAt.of_row (one_rec W r)).1.news ad (by rw [had])
theorem flat_snoc (L : List CM.R) (r : CM.R) : flat (L ++ [r]) = flat L ++ flat [r] := flat_append L [r]
set_option maxRecDepth 10000 in
set_option maxHeartbeats 1000000 in
theorem small_any (w : World) (e : CM.E) (rv : Value) (h : ArgE w e rv) :
    Calls Try.prog 11 #[.agg (entV e rv)] w fun e1 w' => ∃ v, e1 = .returned (.agg (entV (smallE e) v)) ∧ w'.ownsRow w.heap.size 68 5 v (smallE e).recs.length (flat (smallE e).recs) ∧ Touch [] w w' := by
  obtain ⟨a, cap, rfl, hcap, hcm, hc⟩ := h.recs
  obtain ⟨i0, hi, hz0, hz1, hz2⟩ := info_parts infoRR
  have HI := Lib.hid (And.intro hi (And.intro hz0 (And.intro hz1 hz2)))
  have HC := Lib.hid hc
  have HA := Lib.hid h
  have HCM := Lib.hid (And.intro hcap hcm)
  have HSH := Lib.hid (cshort_any · · · ·)
  have HB0 := Lib.hid ((Blk.new w 25 (entV e (.slice a e.recs.length cap))).alloc (.cells zeroE 25))
  have HB1 := Lib.hid (Blk.new' (w.alloc (.cells (entV e (.slice a e.recs.length cap)) 25)) 25 zeroE (g := w.heap.size + 1) (by simp))
  have HT := Lib.hid (((Touch.refl [] w).alloc (.cells (entV e (.slice a e.recs.length cap)) 25)).alloc (.cells zeroE 25))
  have HSZ := Lib.hid (show w.heap.size + 2 = ((w.alloc (.cells (entV e (.slice a e.recs.length cap)) 25)).alloc (.cells zeroE 25)).heap.size by simp)
  obtain ⟨n, hn⟩ : ∃ n, n = e.recs.length := ⟨_, rfl⟩
  have hn1 : (e.name.size : Int) ≤ 9223372036854775807 := by have := h.name; unfold maxLen at this; omega
  have HN1 := Lib.hid hn1
  rw [← hn] at HB0 HB1 HT HSZ ⊢
  obtain ⟨W0, hW0⟩ : ∃ W0, W0 = (w.alloc (.cells (entV e (.slice a n cap)) 25)).alloc (.cells zeroE 25) := ⟨_, rfl⟩
  rw [← hW0] at HB0 HB1 HT HSZ
  have HW0 := Lib.hid hW0
  have HN := Lib.hid hn
  have c1 : W0.cell? ⟨w.heap.size, 1, none⟩ = some (.string e.name) := HB0.out.cell 1
  have f1 : W0.frozen? ⟨w.heap.size, 1, none⟩ = false := HB0.out.frozen 1
  obtain ⟨nm, hnm⟩ : ∃ nm, nm = e.name.extract 0 300 := ⟨_, rfl⟩
  have HNM := Lib.hid hnm
  have hBx := HB0.out.set_ 1 (.string nm)
  have HBx := Lib.hid (show Blk (W0.setCell ⟨w.heap.size, 1, none⟩ (.string nm)) w.heap.size 25 (entV { e with name := nm } (.slice a n cap)) from hBx)
  have HBy := Lib.hid (HB1.out.far (p := ⟨w.heap.size, 1, none⟩) (by simp) (.string nm))
  have HTx := Lib.hid (HT.out.setCell ⟨w.heap.size, 1, none⟩ (.string nm) (.inr (Nat.le_refl _)))
  obtain ⟨W1, hW1⟩ : ∃ W1, W1 = W0.setCell ⟨w.heap.size, 1, none⟩ (.string nm) := ⟨_, rfl⟩
  have HSx := Lib.hid (show W1.heap.size = w.heap.size + 2 by rw [hW1, HSZ.out]; simp)
  have HSY := Lib.hid (cshort_any W0 e.name 300 hn1)
  rw [← hnm] at HSY
  rw [← hW1] at HBx HBy HTx
  have HW1 := Lib.hid hW1
  clear hc h hcap hcm hi hz0 hz1 hz2 hn hW0 hnm hBx hW1 hn1
  show Calls Try.prog 11 #[.agg #[.int .i64 e.kind, .string e.name, .int .u16 e.type, .int .u16 e.cls, .slice a n cap, .int .i64 e.til, .int .i64 e.rank, .int .i64 e.epoch, .int .i64 e.src]] w fun e1 w' => ∃ v, e1 = .returned (.agg (entV (smallE e) v)) ∧ w'.ownsRow w.heap.size 68 5 v (smallE e).recs.length (flat (smallE e).recs) ∧ Touch [] w w'
  go_enter Try.func11, Try.ntmps11
  go_upto_region 1 with (fail)
  change Code.wp _ _ _ _ ((w.alloc (.cells (entV e (.slice a n cap)) 25)).alloc (.cells zeroE 25))
  rw [← HW0.out]
  go_wp2_with fail
  refine HSY.out.mono ?_
  rintro e1 w1 ⟨rfl, rfl⟩
  go_upto_region 2 with (fail)
  rw [← HW1.out]
  clear c1 f1
  go_wp2_with fail
  go_loopw [3, 4] (fun s3 s4 wr => ∃ (i : Nat) (v : Value), v = s3 ∧ s4 = .int .i64 (i : Int) ∧ i ≤ n ∧ i ≤ 70 ∧ Blk wr w.heap.size 25 (entV { e with name := nm } (.slice a n cap)) ∧ Blk wr (w.heap.size + 1) 25 zeroE ∧ wr.ownsRow (w.heap.size + 2) 68 5 v i (flat ((e.recs.take i).map smallR)) ∧ Touch [] w wr) (fun _ s4 _ => 70 - (intOf s4).toNat)
  case atStart => exact ⟨0, .slice none 0 0, rfl, rfl, Nat.zero_le _, by omega, HBx.out, HBy.out, World.ownsRow_nil _ _ _ _, HTx.out⟩
  case round =>
    obtain ⟨i, v, rfl, rfl, hin, hi70, b0, b1, hown, T⟩ := hrel
    obtain ⟨wo, rfl⟩ : ∃ wo, wo = wr := ⟨_, rfl⟩
    have c4 : wo.cell? ⟨w.heap.size, 4, none⟩ = some (.slice a n cap) := b0.cell 4
    have HR := Lib.hid (And.intro b0 (And.intro b1 (And.intro hown (And.intro T (And.intro hin hi70)))))
    clear b0 b1 T hin hi70
    by_cases hlt : i < n
    · have hltI : (i : Int) < (n : Int) := by omega
      by_cases h70 : i < 70
      · have h70I : (i : Int) < 70 := by omega
        obtain ⟨g, off, rfl, hgl, hc⟩ := HC.out (by have := HN.out; omega)
        obtain ⟨r, hr⟩ : ∃ r, r = e.recs[i]'(by rw [← HN.out]; exact hlt) := ⟨_, rfl⟩
        have hcc : ∀ j, j < 5 → w.cell? ⟨g, off + (i * 5 + j), none⟩ = (recV r)[j]? := by rw [hr]; exact hc i (by rw [← HN.out]; exact hlt)
        have hfit := HA.out.each r (by rw [hr]; exact List.getElem_mem _)
        have hR := HR.out
        obtain ⟨_, _, hown, hT, _⟩ := hR
        have HTK := Lib.hid (show (e.recs.take (i + 1)).map smallR = (e.recs.take i).map smallR ++ [smallR r] by
          rw [hr, List.take_succ_eq_append_getElem (by rw [← HN.out]; exact hlt), List.map_append]
          rfl)
        obtain ⟨n1, t1, k1, u1, d1⟩ := r
        have d0 : wo.cell? ⟨g, off + i * 5, none⟩ = some (.string n1) := touch_cell hT (hcc 0 (by decide)) (by simp)
        have d1' : wo.cell? ⟨g, off + i * 5 + 1, none⟩ = some (.int .u16 t1) := touch_cell hT (hcc 1 (by decide)) (by simp)
        have d2 : wo.cell? ⟨g, off + i * 5 + 2, none⟩ = some (.int .u16 k1) := touch_cell hT (hcc 2 (by decide)) (by simp)
        have d3 : wo.cell? ⟨g, off + i * 5 + 3, none⟩ = some (.int .u32 u1) := touch_cell hT (hcc 3 (by decide)) (by simp)
        have d4 : wo.cell? ⟨g, off + i * 5 + 4, none⟩ = some (.string d1) := touch_cell hT (hcc 4 (by decide)) (by simp)
        have HS1 := Lib.hid (fun W => cshort_any W n1 300 (by have := hfit.1; unfold maxLen at this; simp only at this; omega))
        have HS2 := Lib.hid (fun W => cshort_any W d1 100 (by have := hfit.2; unfold maxLen at this; simp only at this; omega))
        have HWR := Lib.hid (show wrap64 ((i : Int) + 1) = (i : Int) + 1 from IntWalk.wrap64_in _ (by omega))
        have HL := Lib.hid (And.intro hlt h70)
        obtain ⟨x1, hx1⟩ : ∃ x, x = n1.extract 0 300 := ⟨_, rfl⟩
        obtain ⟨x2, hx2⟩ : ∃ x, x = d1.extract 0 100 := ⟨_, rfl⟩
        rw [← hx1] at HS1
        rw [← hx2] at HS2
        have HSR := Lib.hid (show smallR ⟨n1, t1, k1, u1, d1⟩ = ⟨x1, t1, k1, u1, x2⟩ by rw [hx1, hx2]; rfl)
        have HO := Lib.hid (show ((wo.alloc (.cells #[.string x1, .int .u16 t1, .int .u16 k1, .int .u32 u1, .string x2] 68)).alloc (.cells #[.string x1, .int .u16 t1, .int .u16 k1, .int .u32 u1, .string x2] 68)).ownsRow (w.heap.size + 2) 68 5 v i (flat ((e.recs.take i).map smallR)) from (hown.alloc _).alloc _)
        clear hlt hr hcc hfit hown hT hc h70 hx1 hx2 hgl
        go_wp2_with fail
        refine (HS1.out _).mono ?_
        rintro e1 w2 ⟨rfl, rfl⟩
        go_wp2_with fail
        refine (HS2.out _).mono ?_
        rintro e1 w2 ⟨rfl, rfl⟩
        have HNW := Lib.hid (one_news (wo.alloc (.cells #[.string x1, .int .u16 t1, .int .u16 k1, .int .u32 u1, .string x2] 68)) ⟨x1, t1, k1, u1, x2⟩ ⟨wo.heap.size + 1, 0, none⟩ (by simp))
        have HBD := Lib.hid (And.intro (show i + 1 ≤ maxLen by have := HL.out.2; unfold maxLen; omega) (show (i + 1) * 40 ≤ 140737488355328 by have := HL.out.2; omega))
        go_wp2_with (at_builtin; refine wpList_append_own _ rfl (.tmp 34) (.tmp 36) 23 rfl (w.heap.size + 2) 68 i0 _ 5 40 Try.underlying23 HI.out.1 HI.out.2.1 HI.out.2.2.1 HI.out.2.2.2 rfl (by decide) v i (flat ((e.recs.take i).map smallR)) rfl HO.out ⟨wo.heap.size + 1, 0, none⟩ 1 1 (flat [⟨x1, t1, k1, u1, x2⟩]) rfl (flat_length _) HNW.out flat_cell HBD.out.1 HBD.out.2 (by have := HR.out.2.1.lt; simp; omega) ?_; intro v' w5 hown' hgrow _)
        have hwr := HWR.out
        have tg : Touch v.ownBlock.toList wo w5 := (((Touch.refl _ wo).alloc _).alloc _).trans (Touch.of_grown hgrow) (fun k hk => .inl hk)
        have hfar : ∀ k, k ∈ v.ownBlock.toList → w.heap.size + 2 ≤ k := fun k hk => (HR.out.2.2.1.lt k (by simpa using hk)).1
        have HG := Lib.hid (And.intro hown' (And.intro tg hfar))
        clear hown' hgrow tg hfar d0 d1' d2 d3 d4
        go_wp2_with fail
        go_roundw
        case rel =>
          obtain ⟨b0, b1, hown, hT, hin, _⟩ := HR.out
          refine ⟨i + 1, v', rfl, rfl, HL.out.1, HL.out.2, HG.out.2.1.blk b0 (fun hm => by have := HG.out.2.2 _ hm; omega), HG.out.2.1.blk b1 (fun hm => by have := HG.out.2.2 _ hm; omega), ?_, hT.trans HG.out.2.1 (fun k hk => .inr (by have := HG.out.2.2 k hk; omega))⟩
          rw [HTK.out, HSR.out, flat_snoc]
          exact HG.out.1
        case measure => exact lt_sub_of (x := i + 1) (i := i) rfl rfl (Nat.sub_lt_sub_left HL.out.2 (Nat.lt_succ_self i))
      · have h70I : (70 : Int) ≤ (i : Int) := by omega
        have hend : (e.recs.take 70).map smallR = (e.recs.take i).map smallR := by
          rw [show i = 70 by have := HR.out.2.2.2.2.2; omega]
        have hR := HR.out
        obtain ⟨b0, b1, hown, hT, _⟩ := hR
        obtain ⟨a9, c9, rfl⟩ := own_shape hown
        have f4 : wo.frozen? ⟨w.heap.size, 4, none⟩ = false := b0.frozen 4
        have hs := b0.set_ 4 (.slice a9 i c9)
        have G := Lib.hid (And.intro (show Blk (wo.setCell ⟨w.heap.size, 4, none⟩ (.slice a9 i c9)) w.heap.size 25 (entV (smallE e) (.slice a9 i c9)) by
          have h9 : smallE e = { e with name := nm, recs := (e.recs.take 70).map smallR } := by rw [HNM.out]; rfl
          rw [h9]; exact hs) (b1.far (p := ⟨w.heap.size, 4, none⟩) (by simp) (.slice a9 i c9)))
        have t9 : Touch [w.heap.size, w.heap.size + 1] wo ((wo.setCell ⟨w.heap.size, 4, none⟩ (.slice a9 i c9)).setRow (w.heap.size + 1) (entV (smallE e) (.slice a9 i c9))) := ((Touch.refl _ wo).setCell ⟨w.heap.size, 4, none⟩ _ (.inl (by simp))).row _ _ (.inl (by simp))
        have HE := Lib.hid (show ∃ v, Ending.returned (.agg (entV (smallE e) (.slice a9 i c9))) = .returned (.agg (entV (smallE e) v)) ∧ ((wo.setCell ⟨w.heap.size, 4, none⟩ (.slice a9 i c9)).setRow (w.heap.size + 1) (entV (smallE e) (.slice a9 i c9))).ownsRow w.heap.size 68 5 v (smallE e).recs.length (flat (smallE e).recs) ∧ Touch [] w ((wo.setCell ⟨w.heap.size, 4, none⟩ (.slice a9 i c9)).setRow (w.heap.size + 1) (entV (smallE e) (.slice a9 i c9))) from by
          refine ⟨_, rfl, ?_, hT.trans t9 (fun k hk => .inr (by simp at hk; omega))⟩
          rw [show (smallE e).recs = (e.recs.take i).map smallR from hend, show ((e.recs.take i).map smallR).length = i by rw [List.length_map, List.length_take]; have := HN.out; have := HR.out.2.2.2.2.1; omega]
          refine trow_touch (trow_base hown (by omega)) t9 (fun k hk hm => ?_)
          have := (hown.lt _ hk).1
          simp at hm
          omega)
        clear hend b0 b1 hown hT hs t9
        go_wp2_with (first
          | (refine wpList_load_row rfl 25 (.tmp 1) rfl w.heap.size rfl 25 (entV (smallE e) (.slice a9 i c9)) (0, 0) _ G.out.1 Try.underlying25 rfl (by kernel_rfl) ?_)
          | (refine wpList_store_rowTo rfl 25 (.tmp 2) (.tmp 40) rfl rfl (w.heap.size + 1) (entV (smallE e) (.slice a9 i c9)) rfl rfl 25 zeroE G.out.2 (by kernel_rfl) rfl (entV_cells _ _ _ _) ?_))
        refine bodyPost_ret (results_cell_row rfl _ _ (w.heap.size + 1) 25 (entV (smallE e) (.slice a9 i c9)) (0, 0) _ rfl (G.out.2.row _) Try.underlying25 rfl (by kernel_rfl)) rfl ?_
        exact HE.out
    · have hge : (n : Int) ≤ (i : Int) := by omega
      have hend : (e.recs.take 70).map smallR = (e.recs.take i).map smallR := by
        rw [List.take_of_length_le (by have := HN.out; have := HR.out.2.2.2.2.2; omega), List.take_of_length_le (by have := HN.out; omega)]
      have hR := HR.out
      obtain ⟨b0, b1, hown, hT, _⟩ := hR
      obtain ⟨a9, c9, rfl⟩ := own_shape hown
      have f4 : wo.frozen? ⟨w.heap.size, 4, none⟩ = false := b0.frozen 4
      have hs := b0.set_ 4 (.slice a9 i c9)
      have G := Lib.hid (And.intro (show Blk (wo.setCell ⟨w.heap.size, 4, none⟩ (.slice a9 i c9)) w.heap.size 25 (entV (smallE e) (.slice a9 i c9)) by
        have h9 : smallE e = { e with name := nm, recs := (e.recs.take 70).map smallR } := by rw [HNM.out]; rfl
        rw [h9]; exact hs) (b1.far (p := ⟨w.heap.size, 4, none⟩) (by simp) (.slice a9 i c9)))
      have t9 : Touch [w.heap.size, w.heap.size + 1] wo ((wo.setCell ⟨w.heap.size, 4, none⟩ (.slice a9 i c9)).setRow (w.heap.size + 1) (entV (smallE e) (.slice a9 i c9))) := ((Touch.refl _ wo).setCell ⟨w.heap.size, 4, none⟩ _ (.inl (by simp))).row _ _ (.inl (by simp))
      have HE := Lib.hid (show ∃ v, Ending.returned (.agg (entV (smallE e) (.slice a9 i c9))) = .returned (.agg (entV (smallE e) v)) ∧ ((wo.setCell ⟨w.heap.size, 4, none⟩ (.slice a9 i c9)).setRow (w.heap.size + 1) (entV (smallE e) (.slice a9 i c9))).ownsRow w.heap.size 68 5 v (smallE e).recs.length (flat (smallE e).recs) ∧ Touch [] w ((wo.setCell ⟨w.heap.size, 4, none⟩ (.slice a9 i c9)).setRow (w.heap.size + 1) (entV (smallE e) (.slice a9 i c9))) from by
        refine ⟨_, rfl, ?_, hT.trans t9 (fun k hk => .inr (by simp at hk; omega))⟩
        rw [show (smallE e).recs = (e.recs.take i).map smallR from hend, show ((e.recs.take i).map smallR).length = i by rw [List.length_map, List.length_take]; have := HN.out; have := HR.out.2.2.2.2.1; omega]
        refine trow_touch (trow_base hown (by omega)) t9 (fun k hk hm => ?_)
        have := (hown.lt _ hk).1
        simp at hm
        omega)
      clear hend b0 b1 hown hT hs t9
      go_wp2_with (first
        | (refine wpList_load_row rfl 25 (.tmp 1) rfl w.heap.size rfl 25 (entV (smallE e) (.slice a9 i c9)) (0, 0) _ G.out.1 Try.underlying25 rfl (by kernel_rfl) ?_)
        | (refine wpList_store_rowTo rfl 25 (.tmp 2) (.tmp 40) rfl rfl (w.heap.size + 1) (entV (smallE e) (.slice a9 i c9)) rfl rfl 25 zeroE G.out.2 (by kernel_rfl) rfl (entV_cells _ _ _ _) ?_))
      refine bodyPost_ret (results_cell_row rfl _ _ (w.heap.size + 1) 25 (entV (smallE e) (.slice a9 i c9)) (0, 0) _ rfl (G.out.2.row _) Try.underlying25 rfl (by kernel_rfl)) rfl ?_
      exact HE.out
end Go.Proofs.Ytibbfihnhlgkeaa

/- Package name: Labels, Check, Depth. -/
import Derived.Test.YtibbfihnhlgkeaaNameE
namespace Go.Proofs.Ytibbfihnhlgkeaa
open Go.RowKit Go.Maps Go.Shelf
open NM (Bs bs ofBs)
attribute [local go_sem] Oper.semAt_some

theorem endI_range (s : ByteArray) : -1 ≤ endI s ∧ endI s ≤ s.size := by
  unfold endI
  cases h : (NM.scan (bs s)).2 with
  | none => simp
  | some r =>
    have := congrArg List.length (NM.scan_enc (bs s) r h).1
    rw [NM.bs_length, List.length_append] at this
    simp only
    omega
theorem check_eq (s : ByteArray) : NM.check (bs s) = if endI s = (s.size : Int) - 1 ∧ 0 ≤ endI s then (if 255 < s.size then 11 else 0) else 10 := by
  unfold NM.check endI
  rw [NM.bs_length]
  cases h : (NM.scan (bs s)).2 with
  | none => simp
  | some r =>
    obtain ⟨h1, h2⟩ := NM.scan_enc (bs s) r h
    have h3 := congrArg List.length h1
    rw [NM.bs_length, List.length_append] at h3
    simp only [Option.some.injEq]
    by_cases hr : r = [0]
    · subst hr
      have h4 : ([0] : Bs).length = 1 := rfl
      rw [h4] at h3
      have h5 : (s.size : Int) - (([0] : Bs).length : Int) = (s.size : Int) - 1 ∧ 0 ≤ (s.size : Int) - (([0] : Bs).length : Int) := ⟨by rw [h4]; rfl, by rw [h4]; omega⟩
      rw [if_pos rfl, if_pos h5]
    · rw [if_neg hr, if_neg]
      rintro ⟨h4, _⟩
      have h5 : r.length = 1 := by omega
      rcases h2 with rfl | ⟨t, rfl⟩
      · simp at h5
      · obtain rfl : t = [] := List.length_eq_zero_iff.1 (by simpa using h5)
        exact hr rfl
theorem labels_count (s : ByteArray) : (NM.scan (bs s)).1.length ≤ s.size := by
  have := NM.labels_length (bs s)
  rw [NM.bs_length] at this
  exact this
/-- what Labels tells -/
def labelsOf (l : Bs) : List ByteArray := if NM.check l = 0 then (NM.labels l).map ofBs else []
set_option maxRecDepth 10000 in
set_option maxHeartbeats 4000000 in
theorem nlabels_any (w : World) (b : ByteArray) (hbz : b.size ≤ 1099511627776) : Calls Try.prog 54 #[.string b] w fun e w' =>
    ∃ v, e = .returned (.tuple #[v, .int .i64 (NM.check (bs b))]) ∧ TRow w' w.heap.size v (labelsOf (bs b)) ∧ Touch [] w w' := by
  refine (callsIn_wide (n := 9)).1 ?_
  refine callsIn_of_wp_marks Try.func54 rfl trivial ?_ rfl
  simp only [Try.ntmps54, List.size_toArray, List.length_cons, List.length_nil, Nat.reduceAdd, Nat.reduceSub, Array.replicate_succ, Array.replicate_zero, List.push_toArray, List.append_toArray, List.nil_append, List.cons_append]
  gi_wp2_with (refine ⟨trivial, ?_⟩; gi_at_call 70; refine (callsIn_wide.2 (neach_any _ _ _)).mono ?_; rintro e w' ⟨rfl, rfl⟩)
  obtain ⟨W0, hW0⟩ : ∃ W0, W0 = (((w.alloc (.cells #[.slice none 0 0] 47)).alloc (.cells #[.int .i64 0] 3)).alloc (.cells #[.string b] 9)).alloc (.cells #[.pointer (some ⟨w.heap.size + 1, 0, none⟩)] 111) := ⟨_, rfl⟩
  have hs0 : W0.heap.size = w.heap.size + 4 := by rw [hW0]; simp
  have hT0 : Touch [] w W0 := by rw [hW0]; exact ((((Touch.refl [] w).alloc _).alloc _).alloc _).alloc _
  have hO0 : Blk W0 w.heap.size 47 #[.slice none 0 0] := by rw [hW0]; exact (((Blk.new w _ _).alloc _).alloc _).alloc _
  have hA0 : Blk W0 (w.heap.size + 1) 3 #[.int .i64 0] := by rw [hW0]; exact ((Blk.new' _ _ _ (by simp)).alloc _).alloc _
  have hB0 : Blk W0 (w.heap.size + 1 + 1) 9 #[.string b] := by rw [hW0]; exact (Blk.new' _ _ _ (by simp)).alloc _
  have hP0 : Blk W0 (w.heap.size + 1 + 1 + 1) 111 #[.pointer (some ⟨w.heap.size + 1, 0, none⟩)] := by rw [hW0]; exact Blk.new' _ _ _ (by simp)
  rw [← hW0]
  clear hW0
  have hcount := labels_count b
  refine range_out 81 _ rfl (enters_of Try.func81 (by kernel_rfl) rfl) (by omega) ?_
  intro fn rec hrec
  obtain ⟨W1, hW1⟩ : ∃ W1, W1 = (W0.alloc (.deferred (some []))).alloc (.loop (rec .ready none)) := ⟨_, rfl⟩
  have hs1 : W1.heap.size = w.heap.size + 6 := by rw [hW1]; simp; omega
  have hT1 : Touch [] w W1 := by rw [hW1]; exact (hT0.alloc _).alloc _
  have hO1 : Blk W1 w.heap.size 47 #[.slice none 0 0] := by rw [hW1]; exact (hO0.alloc _).alloc _
  have hA1 : Blk W1 (w.heap.size + 1) 3 #[.int .i64 0] := by rw [hW1]; exact (hA0.alloc _).alloc _
  have hB1 : Blk W1 (w.heap.size + 1 + 1) 9 #[.string b] := by rw [hW1]; exact (hB0.alloc _).alloc _
  have hP1 : Blk W1 (w.heap.size + 1 + 1 + 1) 111 #[.pointer (some ⟨w.heap.size + 1, 0, none⟩)] := by rw [hW1]; exact (hP0.alloc _).alloc _
  have hL1 : W1.heap[W0.heap.size + 1]? = some (.loop (rec .ready none)) := by
    rw [hW1]; have := World.alloc_heap_new (W0.alloc (.deferred (some []))) (.loop (rec .ready none)); rwa [World.size_alloc] at this
  have hD1 : W1.heap[W0.heap.size]? = some (.deferred (some [])) := by
    rw [hW1]; exact (heap_old _ _ (by simp)).trans (World.alloc_heap_new W0 _)
  rw [← hW1]
  clear hW1 hO0 hA0 hB0 hP0
  have hmain := neach1_any (W0.heap.size + 1) (w.heap.size + 1 + 1) (w.heap.size + 1 + 1 + 1) (w.heap.size + 1) (NM.scan (bs b)).1.length
    (fun pre W => (∃ v, Blk W w.heap.size 47 #[v] ∧ TRow W (w.heap.size + 6) v pre) ∧ W.heap[W0.heap.size + 1]? = some (.loop (rec .ready none)) ∧ W.heap[W0.heap.size]? = some (.deferred (some [])) ∧ Touch [] w W ∧ w.heap.size + 6 ≤ W.heap.size) ?stab ?yield W1 b hbz 0 hB1 hP1 hA1
    ⟨⟨_, hO1, TRow.nil _ _⟩, hL1, hD1, hT1, by omega⟩ (Nat.le_refl _)
  case stab =>
    rintro pre W W' ⟨⟨v, h1, h2⟩, h3, h4, h5, h6⟩ T
    exact ⟨⟨v, T.blk h1 (by simp), trow_low h2 T (by simp)⟩, T.heap h3 (by simp; omega), T.heap h4 (by simp; omega), h5.trans T (by simp), Nat.le_trans h6 T.size⟩
  case yield =>
    rintro m pre x W ⟨⟨v, h1, h2⟩, h3, h4, h5, h6⟩ hlen
    have hy := run_yield (P := Try.prog) (args := #[.int .i64 (offs pre : Int), .string x]) h3 (by rw [hrec]; rfl)
    rw [hrec] at hy
    refine ⟨fn, _, _, _, hy, roundIn_of_wpIn trivial ?_⟩
    clear hy
    gi_wp2
    refine ⟨W.putObj (W0.heap.size + 1) (.loop { rec .ready none with state := .busy }), run_beginRound h3 (by rw [hrec]), ?_⟩
    obtain ⟨Wc, hWc⟩ : ∃ Wc, Wc = W.putObj (W0.heap.size + 1) (.loop { rec .ready none with state := .busy }) := ⟨_, rfl⟩
    have tc : Touch [W0.heap.size + 1] W Wc := by rw [hWc]; exact putObj_touch _ _ _
    have hLc : Wc.heap[W0.heap.size + 1]? = some (.loop { rec .ready none with state := .busy }) := by rw [hWc]; exact World.putObj_heap_same (lt_of_heap h3)
    rw [← hWc]
    clear hWc
    have hOc := tc.blk h1 (by simp; omega)
    have hRc : TRow Wc (w.heap.size + 6) v pre := trow_low h2 tc (by simp; omega)
    have hsc := tc.size
    have kc : Wc.cell? ⟨w.heap.size, 0, none⟩ = some v := hOc.cell 0
    have hrow : ∀ k, v.ownBlock = some k → w.heap.size + 6 ≤ k ∧ k < Wc.heap.size := hRc.lt
    have HR := Lib.hid hRc
    have HROW := Lib.hid hrow
    have H2 := Lib.hid h2
    have H1 := Lib.hid h1
    have H3 := Lib.hid h3
    have H4 := Lib.hid h4
    have HLC := Lib.hid hLc
    have HREC := Lib.hid hrec
    have HS0 := Lib.hid hs0
    have HLEN := Lib.hid hlen
    have HCO := Lib.hid hcount
    obtain ⟨i0, hi, hz0, hz1, hz2⟩ := info_parts infoTxt
    have HI := Lib.hid (And.intro hi (And.intro hz0 (And.intro hz1 hz2)))
    clear hRc hrow h2 h1 h3 h4 hLc hlen hcount hi hz0 hz1 hz2 hrec hs0
    gi_wp2_with (gi_at_builtin; refine wpListIn_append_own _ rfl (.tmp 12) (.tmp 14) 47 rfl (w.heap.size + 6) 9 i0 _ 1 16 Try.underlying47 HI.out.1 HI.out.2.1 HI.out.2.2.1 HI.out.2.2.2 rfl (by decide) v pre.length (pre.map .string) rfl (HR.out.alloc _) ⟨Wc.heap.size, 0, none⟩ 1 1 [.string x] rfl rfl (cell_one_new _ _ _) (by simp [Value.oneCell']) (by unfold maxLen; have := HLEN.out; have := HCO.out; omega) (by have := HLEN.out; have := HCO.out; omega) (by simp; omega) ?_; intro v' w1 hown' hgrow _; obtain ⟨g', cap', rfl⟩ := ownsRow_succ hown'; have t1 := Touch.of_grown hgrow; have hO1' := t1.blk (hOc.alloc _) (by intro hm; have := HROW.out w.heap.size (by simpa using hm); omega); have k1 : w1.cell? ⟨w.heap.size, 0, none⟩ = some v := hO1'.cell 0; have k2 : w1.frozen? ⟨w.heap.size, 0, none⟩ = false := hO1'.frozen 0)
    have hs0 := HS0.out
    have t3 : Touch (w.heap.size :: v.ownBlock.toList) Wc (w1.setCell ⟨w.heap.size, 0, none⟩ (.slice (some ⟨g', 0, none⟩) (pre.length + 1) cap')) :=
      (((Touch.refl _ Wc).alloc _).trans (t1.mono (S' := w.heap.size :: v.ownBlock.toList) (fun k hk => .inl (by simp [hk]))) (fun k hk => .inl hk)).setCell _ _ (.inl (by simp))
    have hL3 := t3.heap HLC.out (by
      intro hm
      rcases List.mem_cons.1 hm with h | h
      · omega
      · have := HROW.out _ (by simpa using h); omega)
    have hR3 : TRow (w1.setCell ⟨w.heap.size, 0, none⟩ (.slice (some ⟨g', 0, none⟩) (pre.length + 1) cap')) (w.heap.size + 6) (.slice (some ⟨g', 0, none⟩) (pre.length + 1) cap') (pre ++ [x]) := by
      have : TRow w1 (w.heap.size + 6) (.slice (some ⟨g', 0, none⟩) (pre.length + 1) cap') (pre ++ [x]) := by
        unfold TRow
        rw [List.map_append, List.length_append]
        exact hown'
      exact trow_low this ((Touch.refl [w.heap.size] w1).setCell _ _ (.inl (by simp))) (by simp)
    have hO3 := hO1'.set_ 0 (.slice (some ⟨g', 0, none⟩) (pre.length + 1) cap')
    have tf : ∀ o, Touch (w.heap.size :: (W0.heap.size + 1) :: v.ownBlock.toList) W ((w1.setCell ⟨w.heap.size, 0, none⟩ (.slice (some ⟨g', 0, none⟩) (pre.length + 1) cap')).putObj (W0.heap.size + 1) o) := fun o =>
      ((tc.mono (S' := w.heap.size :: (W0.heap.size + 1) :: v.ownBlock.toList) (fun k hk => .inl (by simp at hk; simp [hk]))).trans t3 (fun k hk => .inl (by rcases List.mem_cons.1 hk with h | h <;> simp [h]))).trans (putObj_touch _ _ _) (fun k hk => .inl (by simp at hk; simp [hk]))
    have hrec := HREC.out
    have hend := run_endRound (P := Try.prog) none hL3
    refine ⟨_, _, hend, rfl, ?_⟩
    have e1 : ({ { rec .ready none with state := .busy } with state := if (none : Option Code).isNone then LoopState.ready else LoopState.done, pending := none } : Loop) = rec .ready none := by rw [hrec]; rfl
    rw [e1]
    have hmem : ∀ k, k < w.heap.size + 5 → k ≠ w.heap.size → k ∉ w.heap.size :: (W0.heap.size + 1) :: v.ownBlock.toList := by
      intro k hk hne hm
      rcases List.mem_cons.1 hm with h | h
      · exact hne h
      · rcases List.mem_cons.1 h with h | h
        · omega
        · have := HROW.out _ (by simpa using h); omega
    have tp := putObj_touch (w1.setCell ⟨w.heap.size, 0, none⟩ (.slice (some ⟨g', 0, none⟩) (pre.length + 1) cap')) (W0.heap.size + 1) (.loop (rec .ready none))
    refine ⟨⟨⟨_, tp.blk hO3 (by simp; omega), trow_low hR3 tp (by simp; omega)⟩, World.putObj_heap_same (lt_of_heap hL3), (tf _).heap H4.out (hmem _ (by omega) (by omega)), h5.trans (tf _) ?_, Nat.le_trans h6 (tf _).size⟩, ?_⟩
    · intro k hk
      right
      rcases List.mem_cons.1 hk with h | h
      · omega
      · rcases List.mem_cons.1 h with h | h
        · omega
        · have := HROW.out _ (by simpa using h); omega
    · intro g hg
      refine (tf _).block g ?_ (hmem g ?_ ?_) <;> (simp only [List.mem_cons, List.not_mem_nil, or_false] at hg; rcases hg with h | h | h <;> omega)
  refine (callsIn_wide.2 hmain).mono ?_
  rintro e W2 ⟨⟨v, rfl⟩, ⟨⟨vo, hO2, hR2⟩, hL2, hD2, hT2, hs2⟩, hA2⟩
  refine ⟨none, W2.putObj (W0.heap.size + 1) (.loop (rec .exhausted none)), by have := run_endLoop (P := Try.prog) hL2 (by rw [hrec]; simp); rw [hrec] at this ⊢; exact this, ?_⟩
  obtain ⟨W5, hW5⟩ : ∃ W5, W5 = W2.putObj (W0.heap.size + 1) (.loop (rec .exhausted none)) := ⟨_, rfl⟩
  have t5 : Touch [W0.heap.size + 1] W2 W5 := by rw [hW5]; exact putObj_touch _ _ _
  rw [← hW5]
  clear hW5
  have hO5 := t5.blk hO2 (by simp; omega)
  have hA5 := t5.blk hA2 (by simp; omega)
  have hR5 : TRow W5 (w.heap.size + 6) vo ((NM.scan (bs b)).1.map ofBs) := trow_low hR2 t5 (by simp; omega)
  have hK : W5.heap[W0.heap.size]? = some (.deferred (some [])) := t5.heap hD2 (by simp)
  have T5 : Touch [] w W5 := hT2.trans t5 (by simp; omega)
  have k1 : W5.cell? ⟨w.heap.size, 0, none⟩ = some vo := hO5.cell 0
  have k2 : W5.cell? ⟨w.heap.size + 1, 0, none⟩ = some (.int .i64 (endI b)) := hA5.cell 0
  have HR5 := Lib.hid hR5
  have HK := Lib.hid hK
  have hck := check_eq b
  have her := endI_range b
  obtain ⟨E, hE⟩ : ∃ E, E = endI b := ⟨_, rfl⟩
  rw [← hE] at hck her k2
  have hw1 : wrap64 ((b.size : Int) - 1) = (b.size : Int) - 1 := IntWalk.wrap64_in _ (by omega)
  have HS0 := Lib.hid hs0
  clear hmain hR5 hK hL2 hD2 hR2 hL1 hD1 hrec hs0 hE
  have hfin : ∀ (W : World), (∃ nq, W = W5.drewN nq) → ∀ vv, (NM.check (bs b) = 0 → vv = vo) → (NM.check (bs b) ≠ 0 → vv = .slice none 0 0) → TRow (W.putObj W0.heap.size (.deferred none)) w.heap.size vv (labelsOf (bs b)) ∧ Touch [] w (W.putObj W0.heap.size (.deferred none)) ∧ W.heap[W0.heap.size]? = some (.deferred (some [])) := by
    rintro W ⟨nq, rfl⟩ vv h1 h2
    have hs0 := HS0.out
    have tz := putObj_touch (W5.drewN nq) W0.heap.size (.deferred none)
    refine ⟨?_, (T5.trans (Touch.drewN [] W5 nq) (by simp)).trans tz (by simp; omega), HK.out⟩
    unfold labelsOf
    by_cases h0 : NM.check (bs b) = 0
    · rw [h1 h0, if_pos h0]
      exact trow_base (trow_low (trow_low HR5.out (Touch.drewN [] W5 nq) (by simp)) tz (by simp; omega)) (by omega)
    · rw [h2 h0, if_neg h0]
      exact TRow.nil _ _
  have HFIN := Lib.hid hfin
  clear hfin
  by_cases h1 : E = (b.size : Int) - 1
  · by_cases h2 : 0 ≤ E
    · rw [if_pos ⟨h1, h2⟩] at hck
      subst h1
      by_cases h3 : 255 < b.size
      · rw [if_pos h3] at hck
        have h3I : (255 : Int) < (b.size : Int) := by omega
        have HCK := Lib.hid hck
        clear hck
        gi_wp2
        obtain ⟨f1, f2, f3⟩ := HFIN.out W5 ⟨0, rfl⟩ (.slice none 0 0) (fun h => absurd (h.symm.trans HCK.out) (by decide)) (fun _ => rfl)
        refine ⟨by simp, .inl ⟨_, _, rfl, run_takeDeferred f3, ?_⟩⟩
        exact ⟨_, results_tmp2 rfl _ _ _, _, by rw [HCK.out]; rfl, f1, f2⟩
      · rw [if_neg h3] at hck
        have h3I : (b.size : Int) ≤ 255 := by omega
        have HCK := Lib.hid hck
        clear hck
        gi_wp2
        obtain ⟨f1, f2, f3⟩ := HFIN.out W5 ⟨0, rfl⟩ vo (fun _ => rfl) (fun h => absurd HCK.out h)
        refine ⟨by simp, .inl ⟨_, _, rfl, run_takeDeferred f3, ?_⟩⟩
        exact ⟨_, results_tmp2 rfl _ _ _, _, by rw [HCK.out]; rfl, f1, f2⟩
    · rw [if_neg (fun h => h2 h.2)] at hck
      subst h1
      have h2I : (b.size : Int) - 1 < 0 := by omega
      have HCK := Lib.hid hck
      clear hck
      gi_wp2
      obtain ⟨f1, f2, f3⟩ := HFIN.out W5 ⟨0, rfl⟩ (.slice none 0 0) (fun h => absurd (h.symm.trans HCK.out) (by decide)) (fun _ => rfl)
      refine ⟨by simp, .inl ⟨_, _, rfl, run_takeDeferred f3, ?_⟩⟩
      exact ⟨_, results_tmp2 rfl _ _ _, _, by rw [HCK.out]; rfl, f1, f2⟩
  · rw [if_neg (fun h => h1 h.1)] at hck
    have HCK := Lib.hid hck
    clear hck
    gi_wp2
    obtain ⟨f1, f2, f3⟩ := HFIN.out W5 ⟨0, rfl⟩ (.slice none 0 0) (fun h => absurd (h.symm.trans HCK.out) (by decide)) (fun _ => rfl)
    refine ⟨by simp, .inl ⟨_, _, rfl, run_takeDeferred f3, ?_⟩⟩
    exact ⟨_, results_tmp2 rfl _ _ _, _, by rw [HCK.out]; rfl, f1, f2⟩
end Go.Proofs.Ytibbfihnhlgkeaa

/- Package wal: Records. -/
import Derived.Test.YtmglkhnojimnlaaGreatWal2
import Derived.Maps.AppendAt
import Derived.RangeFuncBox
namespace Go.Proofs.YtmglkhnojimnlaaGreat
open Go.RowKit Go.Maps Go.Shelf
attribute [local go_sem] Oper.semAt_some

theorem WM.recs_count : ∀ (k : Nat) (b : WM.Bs), b.length ≤ k → (WM.recs b).1.length * 8 ≤ b.length
  | 0, b, h => by
    have hb : b = [] := List.length_eq_zero_iff.1 (by omega)
    subst hb
    rw [WM.recs_short (by simp)]
    simp
  | k + 1, b, h => by
    cases hh : WM.head? b with
    | none => rw [WM.recs_none hh]; simp
    | some s =>
      have hl := WM.head_len hh
      rw [WM.recs_some hh]
      have hd : (b.drop (8 + s.length)).length ≤ k := by simp only [List.length_drop]; omega
      have := WM.recs_count k _ hd
      simp only [List.length_cons, List.length_drop] at this ⊢
      omega
theorem row_touch {w w' : World} {B size n : Nat} {e : TypeId} {v : Value} {xs : List Value} {S : List Nat} (h : w.ownsRow B e size v n xs) (ht : Touch S w w') (hs : ∀ k ∈ S, k < B) : w'.ownsRow B e size v n xs := by
  obtain ⟨hl, h⟩ := h
  refine ⟨hl, ?_⟩
  rcases h with h | ⟨g, cap, cur, rfl, h1, h2, h3⟩
  · exact .inl h
  · exact .inr ⟨g, cap, cur, rfl, h1, ht.heap h2 (fun hm => by have := hs g hm; omega), h3⟩
theorem row_base {w : World} {B B' size n : Nat} {e : TypeId} {v : Value} {xs : List Value} (h : w.ownsRow B e size v n xs) (hB : B' ≤ B) : w.ownsRow B' e size v n xs := by
  obtain ⟨hl, h⟩ := h
  refine ⟨hl, ?_⟩
  rcases h with h | ⟨g, cap, cur, rfl, h1, h2⟩
  · exact .inl h
  · exact .inr ⟨g, cap, cur, rfl, Nat.le_trans hB h1, h2⟩
/-- a row of texts of one's own -/
def StrRow (w : World) (B : Nat) (v : Value) (l : List ByteArray) : Prop := w.ownsRow B 9 1 v l.length (l.map .string)
theorem StrRow.nil (w : World) (B : Nat) : StrRow w B (.slice none 0 0) [] := World.ownsRow_nil _ _ _ _
theorem touch_putObj (w : World) (l : Nat) (o : Obj) : Touch [l] w (w.putObj l o) := ⟨rfl, rfl, rfl, by simp, fun k _ hk => World.putObj_heap_other (by simpa using hk)⟩

theorem each_any (w : World) (b : ByteArray) (p : Option Addr) : Calls Tryz.prog 76 #[.string b, .pointer p] w fun e w' => e = .returned (.func (.func 97) #[] #[.pointer (some ⟨w.heap.size, 0, none⟩), .pointer (some ⟨w.heap.size + 1, 0, none⟩)]) ∧
    w' = (w.alloc (.cells #[.string b] 9)).alloc (.cells #[.pointer p] 98) := by
  go_enter Tryz.func76, Tryz.ntmps76
  go_wp2
  go_ret
  exact ⟨rfl, rfl⟩
/-- an outermost range over a function: its record is laid, and the function called with a yield that names it -/
theorem range_outer {P : Program} {n : Nat} {g : Operand} {ps : Array Tmp} {assign body : Code} {Q : Exit → Act → World → Prop} {a : Act} {w : World} (gf : Nat) (lb : Array Value)
    (hg : a.eval g = .func (.func gf) #[] lb) (eg : ∀ args w, (callFunc gf args).run P w = .ok (.enter gf args) w) (h1 : 1 ≤ n)
    (h : ∀ (fn : FuncId) (rec : LoopState → Option Code → Loop), rec = (fun st pe => { state := st, pending := pe, fn, tmps := a.tmps, params := ps, assign, body, defers := w.heap.size }) →
      CallsIn Fence.wide (n - 1) P gf (#[.func (.yield (w.heap.size + 1)) #[] #[]] ++ lb) ((w.alloc (.deferred (some []))).alloc (.loop (rec .ready none)))
        (rangePost Fence.wide n P (w.heap.size + 1) Q { a with defers := { target := .collected w.heap.size, args := #[] } :: a.defers })) :
    (Code.rangeFunc g ps assign body).wpIn Fence.wide n P Q a w := by
  refine wpIn_rangeFunc fun fn _ => ?_
  obtain ⟨W1, hW1⟩ : ∃ W1, W1 = ((w.alloc (.deferred (some []))).alloc (.loop { state := .ready, pending := none, fn, tmps := a.tmps, params := ps, assign, body, defers := w.heap.size })) := ⟨_, rfl⟩
  have he := run_enterLoop_outer (P := P) (w := w) fn a.tmps ps assign body
  have hc := h fn _ rfl
  rw [← hW1] at he hc
  clear hW1 h
  refine ⟨w.heap.size + 1, [{ target := .collected w.heap.size, args := #[] }], W1, { target := .fn (.func gf) lb, args := #[.func (.yield (w.heap.size + 1)) #[] #[]] }, W1, gf,
    #[.func (.yield (w.heap.size + 1)) #[] #[]] ++ lb, W1, he, ?_, ?_, ?_, fun _ => h1, ?_⟩
  · simp only [resolve, hg]
    simp [go_sem]
  · intro _ _; trivial
  · simp [invoke, go_sem, eg]
  · exact hc
theorem infoStr : (Tryz.prog.info? 9).map (fun i => (i.zero, i.size, i.bytes)) = some (some (.string ⟨#[]⟩), 1, 16) := by kernel_rfl
set_option maxRecDepth 10000 in
set_option maxHeartbeats 4000000 in
theorem records_any (w : World) (b : ByteArray) (hbz : b.size ≤ 1099511627776) : Calls Tryz.prog 42 #[.string b] w fun e w' =>
    ∃ v, e = .returned (.tuple #[v, .int .i64 ((WM.recs (bs b)).2 : Int)]) ∧ StrRow w' w.heap.size v ((WM.recs (bs b)).1.map ofBs) ∧ Touch [] w w' := by
  refine (callsIn_wide (n := 9)).1 ?_
  refine callsIn_of_wp_marks Tryz.func42 rfl trivial ?_ rfl
  simp only [Tryz.ntmps42, List.size_toArray, List.length_cons, List.length_nil, Nat.reduceAdd, Nat.reduceSub, Array.replicate_succ, Array.replicate_zero, List.push_toArray, List.append_toArray, List.nil_append, List.cons_append]
  gi_wp2_with (refine ⟨trivial, ?_⟩; gi_at_call 76; refine (callsIn_wide.2 (each_any _ _ _)).mono ?_; rintro e w' ⟨rfl, rfl⟩)
  obtain ⟨W0, hW0⟩ : ∃ W0, W0 = (((w.alloc (.cells #[.slice none 0 0] 34)).alloc (.cells #[.int .i64 0] 3)).alloc (.cells #[.string b] 9)).alloc (.cells #[.pointer (some ⟨w.heap.size + 1, 0, none⟩)] 98) := ⟨_, rfl⟩
  have hs0 : W0.heap.size = w.heap.size + 4 := by rw [hW0]; simp
  have hT0 : Touch [] w W0 := by rw [hW0]; exact ((((Touch.refl [] w).alloc _).alloc _).alloc _).alloc _
  have hO0 : Blk W0 w.heap.size 34 #[.slice none 0 0] := by rw [hW0]; exact (((Blk.new w _ _).alloc _).alloc _).alloc _
  have hA0 : Blk W0 (w.heap.size + 1) 3 #[.int .i64 0] := by rw [hW0]; exact ((Blk.new' _ _ _ (by simp)).alloc _).alloc _
  have hB0 : Blk W0 (w.heap.size + 1 + 1) 9 #[.string b] := by rw [hW0]; exact (Blk.new' _ _ _ (by simp)).alloc _
  have hP0 : Blk W0 (w.heap.size + 1 + 1 + 1) 98 #[.pointer (some ⟨w.heap.size + 1, 0, none⟩)] := by rw [hW0]; exact Blk.new' _ _ _ (by simp)
  rw [← hW0]
  clear hW0
  have hcount := WM.recs_count _ (bs b) (Nat.le_refl _)
  rw [bs_length] at hcount
  refine range_outer 97 _ rfl (enters_of Tryz.func97 (by kernel_rfl) rfl) (by omega) ?_
  intro fn rec hrec
  obtain ⟨W1, hW1⟩ : ∃ W1, W1 = (W0.alloc (.deferred (some []))).alloc (.loop (rec .ready none)) := ⟨_, rfl⟩
  have hs1 : W1.heap.size = w.heap.size + 6 := by rw [hW1]; simp; omega
  have hT1 : Touch [] w W1 := by rw [hW1]; exact (hT0.alloc _).alloc _
  have hO1 : Blk W1 w.heap.size 34 #[.slice none 0 0] := by rw [hW1]; exact (hO0.alloc _).alloc _
  have hA1 : Blk W1 (w.heap.size + 1) 3 #[.int .i64 0] := by rw [hW1]; exact (hA0.alloc _).alloc _
  have hB1 : Blk W1 (w.heap.size + 1 + 1) 9 #[.string b] := by rw [hW1]; exact (hB0.alloc _).alloc _
  have hP1 : Blk W1 (w.heap.size + 1 + 1 + 1) 98 #[.pointer (some ⟨w.heap.size + 1, 0, none⟩)] := by rw [hW1]; exact (hP0.alloc _).alloc _
  have hL1 : W1.heap[W0.heap.size + 1]? = some (.loop (rec .ready none)) := by
    rw [hW1]; have := World.alloc_heap_new (W0.alloc (.deferred (some []))) (.loop (rec .ready none)); rwa [World.size_alloc] at this
  have hD1 : W1.heap[W0.heap.size]? = some (.deferred (some [])) := by
    rw [hW1]; exact (heap_old _ _ (by simp)).trans (World.alloc_heap_new W0 _)
  rw [← hW1]
  clear hW1 hO0 hA0 hB0 hP0
  have hmain := each1_any (W0.heap.size + 1) (w.heap.size + 1 + 1) (w.heap.size + 1 + 1 + 1) (w.heap.size + 1) (WM.recs (bs b)).1.length
    (fun pre W => (∃ v, Blk W w.heap.size 34 #[v] ∧ StrRow W (w.heap.size + 6) v pre) ∧ W.heap[W0.heap.size + 1]? = some (.loop (rec .ready none)) ∧ W.heap[W0.heap.size]? = some (.deferred (some [])) ∧ Touch [] w W ∧ w.heap.size + 6 ≤ W.heap.size) ?stab ?yield W1 b (by unfold maxLen; omega) hB1 hP1 hA1
    ⟨⟨_, hO1, StrRow.nil _ _⟩, hL1, hD1, hT1, by omega⟩ (Nat.le_refl _)
  case stab =>
    rintro pre W W' ⟨⟨v, h1, h2⟩, h3, h4, h5, h6⟩ T
    exact ⟨⟨v, T.blk h1 (by simp; omega), row_touch h2 T (by simp)⟩, T.heap h3 (by simp; omega), T.heap h4 (by simp; omega), h5.trans T (by simp; omega), Nat.le_trans h6 T.size⟩
  case yield =>
    rintro m pre x W ⟨⟨v, h1, h2⟩, h3, h4, h5, h6⟩ hlen
    have hy := run_yield (P := Tryz.prog) (args := #[.string x]) h3 (by rw [hrec]; rfl)
    rw [hrec] at hy
    refine ⟨fn, _, _, _, hy, roundIn_of_wpIn trivial ?_⟩
    clear hy
    gi_wp2
    refine ⟨W.putObj (W0.heap.size + 1) (.loop { rec .ready none with state := .busy }), run_beginRound h3 (by rw [hrec]), ?_⟩
    obtain ⟨Wc, hWc⟩ : ∃ Wc, Wc = W.putObj (W0.heap.size + 1) (.loop { rec .ready none with state := .busy }) := ⟨_, rfl⟩
    have tc : Touch [W0.heap.size + 1] W Wc := by rw [hWc]; exact touch_putObj _ _ _
    have hLc : Wc.heap[W0.heap.size + 1]? = some (.loop { rec .ready none with state := .busy }) := by rw [hWc]; exact World.putObj_heap_same (lt_of_heap h3)
    rw [← hWc]
    clear hWc
    have hOc := tc.blk h1 (by simp; omega)
    have hRc : StrRow Wc (w.heap.size + 6) v pre := row_touch h2 tc (by simp; omega)
    have hsc := tc.size
    have kc : Wc.cell? ⟨w.heap.size, 0, none⟩ = some v := hOc.cell 0
    have hrow : ∀ k, v.ownBlock = some k → w.heap.size + 6 ≤ k ∧ k < Wc.heap.size := hRc.lt
    have HR := Lib.hid hRc
    have HROW := Lib.hid hrow
    have H2 := Lib.hid h2
    have H1 := Lib.hid h1
    have H3 := Lib.hid h3
    have H4 := Lib.hid h4
    have HLC := Lib.hid hLc
    have HREC := Lib.hid hrec
    have HS0 := Lib.hid hs0
    have HLEN := Lib.hid hlen
    have HCO := Lib.hid hcount
    obtain ⟨i0, hi, hz0, hz1, hz2⟩ := info_parts infoStr
    have HI := Lib.hid (And.intro hi (And.intro hz0 (And.intro hz1 hz2)))
    clear hRc hrow h2 h1 h3 h4 hLc hlen hcount hi hz0 hz1 hz2 hrec hs0
    gi_wp2_with (gi_at_builtin; refine wpListIn_append_own _ rfl (.tmp 10) (.tmp 12) 34 rfl (w.heap.size + 6) 9 i0 _ 1 16 Tryz.underlying34 HI.out.1 HI.out.2.1 HI.out.2.2.1 HI.out.2.2.2 rfl (by decide) v pre.length (pre.map .string) rfl (HR.out.alloc _) ⟨Wc.heap.size, 0, none⟩ 1 1 [.string x] rfl rfl (cell_one_new _ _ _) (by simp [Value.oneCell']) (by unfold maxLen; have := HLEN.out; have := HCO.out; omega) (by have := HLEN.out; have := HCO.out; omega) (by simp; omega) ?_; intro v' w1 hown' hgrow _; obtain ⟨g', cap', rfl⟩ := ownsRow_succ hown'; have t1 := Touch.of_grown hgrow; have hO1' := t1.blk (hOc.alloc _) (by intro hm; have := HROW.out w.heap.size (by simpa using hm); omega); have k1 : w1.cell? ⟨w.heap.size, 0, none⟩ = some v := hO1'.cell 0; have k2 : w1.frozen? ⟨w.heap.size, 0, none⟩ = false := hO1'.frozen 0)
    have hs0 := HS0.out
    have t3 : Touch (w.heap.size :: v.ownBlock.toList) Wc (w1.setCell ⟨w.heap.size, 0, none⟩ (.slice (some ⟨g', 0, none⟩) (pre.length + 1) cap')) :=
      (((Touch.refl _ Wc).alloc _).trans (t1.mono (S' := w.heap.size :: v.ownBlock.toList) (fun k hk => .inl (by simp [hk]))) (fun k hk => .inl hk)).setCell _ _ (.inl (by simp))
    have hL3 := t3.heap HLC.out (by
      intro hm
      rcases List.mem_cons.1 hm with h | h
      · omega
      · have := HROW.out _ (by simpa using h); omega)
    have hR3 : StrRow (w1.setCell ⟨w.heap.size, 0, none⟩ (.slice (some ⟨g', 0, none⟩) (pre.length + 1) cap')) (w.heap.size + 6) (.slice (some ⟨g', 0, none⟩) (pre.length + 1) cap') (pre ++ [x]) := by
      have : StrRow w1 (w.heap.size + 6) (.slice (some ⟨g', 0, none⟩) (pre.length + 1) cap') (pre ++ [x]) := by
        unfold StrRow
        rw [List.map_append, List.length_append]
        exact hown'
      exact row_touch this ((Touch.refl [w.heap.size] w1).setCell _ _ (.inl (by simp))) (by simp)
    have hO3 := hO1'.set_ 0 (.slice (some ⟨g', 0, none⟩) (pre.length + 1) cap')
    have tf : ∀ o, Touch (w.heap.size :: (W0.heap.size + 1) :: v.ownBlock.toList) W ((w1.setCell ⟨w.heap.size, 0, none⟩ (.slice (some ⟨g', 0, none⟩) (pre.length + 1) cap')).putObj (W0.heap.size + 1) o) := fun o =>
      ((tc.mono (S' := w.heap.size :: (W0.heap.size + 1) :: v.ownBlock.toList) (fun k hk => .inl (by simp at hk; simp [hk]))).trans t3 (fun k hk => .inl (by rcases List.mem_cons.1 hk with h | h <;> simp [h]))).trans (touch_putObj _ _ _) (fun k hk => .inl (by simp at hk; simp [hk]))
    have hrec := HREC.out
    have hend := run_endRound (P := Tryz.prog) none hL3
    refine ⟨_, _, hend, rfl, ?_⟩
    have e1 : ({ { rec .ready none with state := .busy } with state := if (none : Option Code).isNone then LoopState.ready else LoopState.done, pending := none } : Loop) = rec .ready none := by rw [hrec]; rfl
    rw [e1]
    have hmem : ∀ k, k < w.heap.size + 5 → k ≠ w.heap.size → k ∉ w.heap.size :: (W0.heap.size + 1) :: v.ownBlock.toList := by
      intro k hk hne hm
      rcases List.mem_cons.1 hm with h | h
      · exact hne h
      · rcases List.mem_cons.1 h with h | h
        · omega
        · have := HROW.out _ (by simpa using h); omega
    have tp := touch_putObj (w1.setCell ⟨w.heap.size, 0, none⟩ (.slice (some ⟨g', 0, none⟩) (pre.length + 1) cap')) (W0.heap.size + 1) (.loop (rec .ready none))
    refine ⟨⟨⟨_, tp.blk hO3 (by simp; omega), row_touch hR3 tp (by simp; omega)⟩, World.putObj_heap_same (lt_of_heap hL3), (tf _).heap H4.out (hmem _ (by omega) (by omega)), h5.trans (tf _) ?_, Nat.le_trans h6 (tf _).size⟩, ?_⟩
    · intro k hk
      right
      rcases List.mem_cons.1 hk with h | h
      · omega
      · rcases List.mem_cons.1 h with h | h
        · omega
        · have := HROW.out _ (by simpa using h); omega
    · intro g hg
      refine (tf _).block g ?_ (hmem g ?_ ?_) <;> (simp only [List.mem_cons, List.not_mem_nil, or_false] at hg; rcases hg with h | h | h <;> omega)
  refine (callsIn_wide.2 hmain).mono ?_
  rintro e W2 ⟨⟨v, rfl⟩, ⟨⟨vo, hO2, hR2⟩, hL2, hD2, hT2, hs2⟩, hA2⟩
  refine ⟨none, W2.putObj (W0.heap.size + 1) (.loop (rec .exhausted none)), by have := run_endLoop (P := Tryz.prog) hL2 (by rw [hrec]; simp); rw [hrec] at this ⊢; exact this, ?_⟩
  obtain ⟨W5, hW5⟩ : ∃ W5, W5 = W2.putObj (W0.heap.size + 1) (.loop (rec .exhausted none)) := ⟨_, rfl⟩
  have t5 : Touch [W0.heap.size + 1] W2 W5 := by rw [hW5]; exact touch_putObj _ _ _
  rw [← hW5]
  clear hW5
  have hO5 := t5.blk hO2 (by simp; omega)
  have hA5 := t5.blk hA2 (by simp; omega)
  have hR5 : StrRow W5 (w.heap.size + 6) vo ((WM.recs (bs b)).1.map ofBs) := row_touch hR2 t5 (by simp; omega)
  have hK : W5.heap[W0.heap.size]? = some (.deferred (some [])) := t5.heap hD2 (by simp)
  have T5 : Touch [] w W5 := hT2.trans t5 (by simp; omega)
  have k1 : W5.cell? ⟨w.heap.size, 0, none⟩ = some vo := hO5.cell 0
  have k2 : W5.cell? ⟨w.heap.size + 1, 0, none⟩ = some (.int .i64 ((WM.recs (bs b)).2 : Int)) := hA5.cell 0
  have HR5 := Lib.hid hR5
  have HK := Lib.hid hK
  clear hmain hR5 hK hL2 hD2 hR2 hL1 hD1 hrec
  have HS0 := Lib.hid hs0
  clear hs0
  gi_wp2
  refine wpIn_wide.2 ?_
  go_quiet (fail)
  gi_wp2
  refine ⟨by simp, .inl ⟨_, _, rfl, run_takeDeferred (show (W5.drewN nq).heap[W0.heap.size]? = _ from HK.out), ?_⟩⟩
  have tz := touch_putObj (W5.drewN nq) W0.heap.size (.deferred none)
  have hs0 := HS0.out
  refine ⟨_, results_tmp2 rfl _ _ _, vo, rfl, ?_, ?_⟩
  · exact row_base (row_touch (row_touch HR5.out (Touch.drewN [] W5 nq) (by simp)) tz (by simp; omega)) (by omega)
  · exact (T5.trans (Touch.drewN [] W5 nq) (by simp)).trans tz (by simp; omega)
end Go.Proofs.YtmglkhnojimnlaaGreat

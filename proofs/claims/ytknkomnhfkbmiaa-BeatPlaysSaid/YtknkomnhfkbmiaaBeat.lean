/- Package beat's functions: what each does to a beat in memory. -/
import Derived.Test.YtknkomnhfkbmiaaChecked
import Derived.Test.YtknkomnhfkbmiaaMem
namespace Go.Proofs.Ytknkomnhfkbmiaa
open Go.RowKit Go.Maps

def clk (n : Int) : Int := min (max n 0) 1125899906842624
theorem clk_lo (n : Int) : 0 ≤ clk n := by unfold clk; omega
theorem clk_hi (n : Int) : clk n ≤ 1125899906842624 := by unfold clk; omega

theorem clock_any (n : Int) (w : World) :
    Calls Try.prog 21 #[.int .i64 n] w fun e w' => e = .returned (.int .i64 (clk n)) ∧ w' = w := by
  go_enter Try.func21, Try.ntmps21
  go_wp2
  all_goals
    go_ret
    refine ⟨ret_int ?_, rfl⟩
    unfold clk
    omega

theorem new_any (n : Int) (w : World) :
    Calls Try.prog 8 #[.int .i64 n] w fun e w' => e = .returned (.pointer (some ⟨w.heap.size, 0, none⟩)) ∧ w' = w.alloc (.cells #[.int .i64 (clk n), .map none] 41) := by
  go_enter Try.func8, Try.ntmps8
  go_wp2_with (go_at_call 21; refine (clock_any _ _).mono ?_; rintro e w' ⟨rfl, rfl⟩)
  go_ret
  exact ⟨rfl, rfl⟩
/-! ### a map from int to int, read as a function -/
theorem zero3 (w : World) : (zeroValue 3).run Try.prog w = .ok (.int .i64 0) w := by kernel_rfl
theorem kint : Keyed Try.prog 3 := int_keyed Try.underlying3

structure View (D : DataW Unit) (f : Int → Option Int) : Prop where
  has : ∀ k, Maps.has D (.int .i64 k) = (f k).isSome
  at_ : ∀ k v z, f k = some v → D.atKey (.int .i64 k) z = .lit (.int .i64 v)
  key : ∀ k v, f k = some v → 0 ≤ k ∧ k < 64 ∧ 0 ≤ v ∧ v ≤ 1125899906842624

def upd (f : Int → Option Int) (k : Int) (v : Option Int) : Int → Option Int := fun j => if j = k then v else f j

def MapII (w : World) (mo : Option Nat) (n : Nat) (f : Int → Option Int) : Prop :=
  (mo = none ∧ ∀ k, f k = none) ∨ ∃ mb D, mo = some mb ∧ w.ownsMap Try.prog 3 (plainElem Try.prog 3) mb n D ∧ View D f

theorem MapII.look {w : World} {mo : Option Nat} {n : Nat} {f : Int → Option Int} (h : MapII w mo n f) (k : Int) (hk : (Lit.int .i64 k).wf = true) :
    (Instr.lookup 39 (.map mo) (.int .i64 k) true).run Try.prog w = .ok (.tuple #[.int .i64 ((f k).getD 0), .bool (f k).isSome]) w := by
  rcases h with ⟨rfl, hf⟩ | ⟨mb, D, rfl, hown, hv⟩
  · rw [Maps.look_nil true kint Try.underlying39 (zero3 w) (keyOf_int_mk Try.underlying3 hk)]
    simp [hf k]
  · obtain ⟨v, ps, hrun, hR⟩ := hown.look_ok kint Try.underlying39 (zero3 w) (zd := .lit (.int .i64 0)) (plainElem_int Try.underlying3 (by decide)) (keyOf_int_mk Try.underlying3 hk)
    rw [hrun]
    obtain ⟨c, rfl, hc, hwc⟩ := plainElem_int_inv Try.underlying3 hR
    rw [hv.has k]
    cases hf : f k with
    | none =>
      have := atKey_of_not_has (D := D) (k := .int .i64 k) (by rw [hv.has k, hf]; rfl) (.lit (.int .i64 0))
      rw [this] at hc
      simp at hc
      simp [← hc]
    | some v =>
      have := hv.at_ k v (.lit (.int .i64 0)) hf
      rw [this] at hc
      simp at hc
      simp [hc]

theorem MapII.look1 {w : World} {mo : Option Nat} {n : Nat} {f : Int → Option Int} (h : MapII w mo n f) (k : Int) (hk : (Lit.int .i64 k).wf = true) :
    (Instr.lookup 39 (.map mo) (.int .i64 k) false).run Try.prog w = .ok (.int .i64 ((f k).getD 0)) w := by
  rcases h with ⟨rfl, hf⟩ | ⟨mb, D, rfl, hown, hv⟩
  · rw [Maps.look_nil false kint Try.underlying39 (zero3 w) (keyOf_int_mk Try.underlying3 hk)]
    simp [hf k]
  · obtain ⟨c, hrun, hc, hwc⟩ := hown.lookup_int kint Try.underlying39 Try.underlying3 (zero3 w) (keyOf_int_mk Try.underlying3 hk)
    rw [hrun]
    cases hf : f k with
    | none =>
      have := atKey_of_not_has (D := D) (k := .int .i64 k) (by rw [hv.has k, hf]; rfl) (.lit (.int .i64 0))
      rw [this] at hc
      simp at hc
      simp [← hc]
    | some v =>
      have := hv.at_ k v (.lit (.int .i64 0)) hf
      rw [this] at hc
      simp at hc
      simp [hc]

theorem MapII.drewN {w : World} {mo : Option Nat} {n : Nat} {f : Int → Option Int} (h : MapII w mo n f) (j : Nat) : MapII (w.drewN j) mo n f := h
theorem MapII.heap {w w' : World} {mo : Option Nat} {n : Nat} {f : Int → Option Int} (h : MapII w mo n f) (hb : ∀ b, mo = some b → w'.heap[b]? = w.heap[b]?) : MapII w' mo n f := by
  rcases h with h | ⟨mb, D, rfl, ⟨es, clock, h1, h2⟩, hv⟩
  · exact .inl h
  · exact .inr ⟨mb, D, rfl, ⟨es, clock, (hb mb rfl).trans h1, h2⟩, hv⟩

/-- the beat at block b -/
structure BeatAt (w : World) (b : Nat) (mo : Option Nat) (L : Int) (n : Nat) (f : Int → Option Int) : Prop where
  blk : Blk w b 41 #[.int .i64 L, .map mo]
  lo : 0 ≤ L
  hi : L ≤ 1125899906842624
  map : MapII w mo n f

theorem BeatAt.c0 {w : World} {b : Nat} {mo : Option Nat} {L : Int} {n : Nat} {f : Int → Option Int} (h : BeatAt w b mo L n f) : w.cell? ⟨b, 0, none⟩ = some (.int .i64 L) := h.blk.cell 0
theorem BeatAt.c1 {w : World} {b : Nat} {mo : Option Nat} {L : Int} {n : Nat} {f : Int → Option Int} (h : BeatAt w b mo L n f) : w.cell? ⟨b, 1, none⟩ = some (.map mo) := h.blk.cell 1
theorem BeatAt.fr {w : World} {b : Nat} {mo : Option Nat} {L : Int} {n : Nat} {f : Int → Option Int} (h : BeatAt w b mo L n f) (i : Nat) : w.frozen? ⟨b, i, none⟩ = false := h.blk.frozen i

theorem last_any (w : World) (b : Nat) (mo : Option Nat) (L : Int) (n : Nat) (f : Int → Option Int) (h : BeatAt w b mo L n f) (k : Int) (hk : (Lit.int .i64 k).wf = true) :
    Calls Try.prog 14 #[.pointer (some ⟨b, 0, none⟩), .int .i64 k] w fun e w' => e = .returned (.tuple #[.int .i64 ((f k).getD 0), .bool (f k).isSome]) ∧ w' = w := by
  have c1 := h.c1
  have hl := h.map.look k hk
  go_enter Try.func14, Try.ntmps14
  go_wp2
  go_ret2
  exact ⟨rfl, rfl⟩

theorem last_nil (w : World) (k : Int) :
    Calls Try.prog 14 #[.pointer none, .int .i64 k] w fun e w' => e = .returned (.tuple #[.int .i64 0, .bool false]) ∧ w' = w := by
  go_enter Try.func14, Try.ntmps14
  go_wp2
  go_ret2
  exact ⟨rfl, rfl⟩

def aliveB (L : Int) (f : Int → Option Int) (k now : Int) : Bool := match f k with
  | none => false
  | some t => decide (clk now - t ≤ L)

theorem alive_any (w : World) (b : Nat) (mo : Option Nat) (L : Int) (n : Nat) (f : Int → Option Int) (h : BeatAt w b mo L n f) (hf : ∀ k v, f k = some v → 0 ≤ v ∧ v ≤ 1125899906842624) (k now : Int) (hk : (Lit.int .i64 k).wf = true) :
    Calls Try.prog 18 #[.pointer (some ⟨b, 0, none⟩), .int .i64 k, .int .i64 now] w fun e w' => e = .returned (.bool (aliveB L f k now)) ∧ ∃ j, w' = w.drewN j := by
  have c0 := h.c0
  have lo := h.lo
  have hi := h.hi
  have g1 := clk_lo now
  have g2 := clk_hi now
  cases hv : f k with
  | none =>
    have hfin : aliveB L f k now = false := by simp [aliveB, hv]
    have hl := last_any w b mo L n f h k hk
    rw [hv] at hl
    have HL := Lib.hid hl
    have HF := Lib.hid hfin
    clear hl hfin hv hf
    go_enter Try.func18, Try.ntmps18
    go_wp2_with (go_at_call 14; refine HL.out.mono ?_; rintro e w' ⟨rfl, rfl⟩)
    go_quiet (fail)
    go_wp2
    go_ret
    rw [HF.out]
    exact ⟨rfl, _, rfl⟩
  | some t =>
    obtain ⟨t0, t1⟩ := hf k t hv
    have hfin : aliveB L f k now = decide (clk now - t ≤ L) := by simp [aliveB, hv]
    have hl := last_any w b mo L n f h k hk
    rw [hv] at hl
    have HL := Lib.hid hl
    have HF := Lib.hid hfin
    clear hl hfin hv hf
    go_enter Try.func18, Try.ntmps18
    go_wp2_with (go_at_call 14; refine HL.out.mono ?_; rintro e w' ⟨rfl, rfl⟩)
    go_quiet ((go_at_call 21; exact Calls.quiet_of_same (clock_any _ _)))
    go_wp2
    go_ret
    rw [HF.out]
    exact ⟨rfl, _, rfl⟩

theorem View.put {D : DataW Unit} {f : Int → Option Int} (h : View D f) (hm : IsMap D) {k v : Int} (hk : 0 ≤ k ∧ k < 64 ∧ 0 ≤ v ∧ v ≤ 1125899906842624) : View (D.put (.int .i64 k) (.lit (.int .i64 v))) (upd f k (some v)) := by
  have hkl : WideAt.IsKeyLit (.int .i64 k) := trivial
  refine ⟨fun j => ?_, fun j u z hj => ?_, fun j u hj => ?_⟩
  · by_cases e : j = k
    · subst e; rw [has_put_same hm hkl]; simp [upd]
    · rw [has_put_other (by simpa using e), h.has j]; simp [upd, e]
  · by_cases e : j = k
    · subst e; rw [atKey_put_same hm hkl]; simp [upd] at hj; rw [hj]
    · rw [atKey_put_other (by simpa using e)]; simp [upd, e] at hj; exact h.at_ j u z hj
  · by_cases e : j = k
    · subst e; simp [upd] at hj; subst hj; exact hk
    · simp [upd, e] at hj; exact h.key j u hj

theorem View.del {D : DataW Unit} {f : Int → Option Int} (h : View D f) (k : Int) : View (D.del (.int .i64 k)) (upd f k none) := by
  refine ⟨fun j => ?_, fun j u z hj => ?_, fun j u hj => ?_⟩
  · by_cases e : j = k
    · subst e; rw [has_del_same]; simp [upd]
    · rw [has_del_other (by simpa using e), h.has j]; simp [upd, e]
  · by_cases e : j = k
    · subst e; simp [upd] at hj
    · rw [atKey_del_other (by simpa using e)]; simp [upd, e] at hj; exact h.at_ j u z hj
  · by_cases e : j = k
    · subst e; simp [upd] at hj
    · simp [upd, e] at hj; exact h.key j u hj

theorem View.empty : View (.map []) (fun _ => none) :=
  ⟨fun k => by simp [Maps.has], fun k v z h => by simp at h, fun k v h => by simp at h⟩

def seenV (f : Int → Option Int) (k now : Int) : Int := if (f k).getD 0 < clk now then clk now else (f k).getD 0
theorem seenV_lo (f : Int → Option Int) (hf : ∀ k v, f k = some v → 0 ≤ v ∧ v ≤ 1125899906842624) (k now : Int) : 0 ≤ seenV f k now ∧ seenV f k now ≤ 1125899906842624 := by
  have g1 := clk_lo now
  have g2 := clk_hi now
  unfold seenV
  cases hv : f k with
  | none => simp; split <;> omega
  | some v => have := hf k v hv; simp; split <;> omega
theorem MapII.rng {w : World} {mo : Option Nat} {n : Nat} {f : Int → Option Int} (h : MapII w mo n f) (k v : Int) (hf : f k = some v) : 0 ≤ k ∧ k < 64 ∧ 0 ≤ v ∧ v ≤ 1125899906842624 := by
  rcases h with ⟨_, h⟩ | ⟨mb, D, _, _, hv⟩
  · rw [h k] at hf; cases hf
  · exact hv.key k v hf

set_option maxHeartbeats 400000 in
theorem seen_none (w : World) (b : Nat) (L : Int) (n : Nat) (f : Int → Option Int) (h : BeatAt w b none L n f) (k now : Int) (hk0 : 0 ≤ k) (hk1 : k < 64) :
    Calls Try.prog 10 #[.pointer (some ⟨b, 0, none⟩), .int .i64 k, .int .i64 now] w fun e w' => e = .returned (.bool true) ∧ BeatAt w' b (some w.heap.size) L 1 (upd f k (some (seenV f k now))) ∧ w.grownBy w' (some b) := by
  have c1 := h.c1
  have f1 := h.fr 1
  have hwk : (Lit.int .i64 k).wf = true := wf64 (by omega) (by omega)
  have hlt : b < w.heap.size := (Array.getElem?_eq_some_iff.1 h.blk).1
  have hf0 : ∀ k, f k = none := by
    rcases h.map with ⟨_, h⟩ | ⟨_, _, e, _⟩
    · exact h
    · cases e
  have hsv := seenV_lo f (fun k v hf => (h.map.rng k v hf).2.2) k now
  have hwv : (Lit.int .i64 (seenV f k now)).wf = true := wf64 (by omega) (by omega)
  unfold seenV at hwv
  obtain ⟨w1, hw1⟩ : ∃ w1, w1 = (w.setCell ⟨b, 1, none⟩ (.map (some w.heap.size))).alloc (.map #[] 0) := ⟨_, rfl⟩
  have hown : w1.ownsMap Try.prog 3 (plainElem Try.prog 3) w.heap.size 0 (.map [] : DataW Unit) := by
    rw [hw1]
    have := World.ownsMap_made (H := Unit) (w.setCell ⟨b, 1, none⟩ (.map (some w.heap.size))) Try.prog 3 (plainElem Try.prog 3)
    rwa [World.size_setCell] at this
  have hblk : Blk w1 b 41 #[.int .i64 L, .map (some w.heap.size)] := by
    rw [hw1]
    exact (h.blk.set_ 1 _).alloc _
  have hB1 : BeatAt w1 b (some w.heap.size) L 0 f := ⟨hblk, h.lo, h.hi, .inr ⟨_, _, rfl, hown, by have := View.empty; rwa [show f = (fun _ => none) from funext hf0]⟩⟩
  have hgr : w.grownBy w1 (some b) := by
    rw [hw1]
    exact ⟨rfl, rfl, rfl, by simp, fun k hk hne => by
      rw [heap_old _ _ (by simpa using hk), heap_setCell_far _ _ _ (by simpa using hne)]⟩
  have hl := MapII.look1 (w := w1.drew) hB1.map k hwk
  have c2 := hB1.c1
  have g1 := clk_lo now
  have g2 := clk_hi now
  have hq : ∀ w, (binOp .eql 39 (.map none) (.map none)).run Try.prog w = .ok (.bool true) w := fun w => by kernel_rfl
  have hmm := @run_makeMap Try.prog
  have H1 := Lib.hid hw1
  have HF := Lib.hid hf0
  clear hf0
  clear hw1
  go_enter Try.func10, Try.ntmps10
  go_wp2
  rw [← H1.out]
  go_still_tail 14, (by kernel_rfl)
  still_call (clock_any _ _)
  repeat still_step
  refine wpStill_nil ?_
  change wpList _ _ _ _ _ w1.drew
  obtain ⟨w2, hw2⟩ : ∃ w2, w1.drew = w2 := ⟨_, rfl⟩
  rw [hw2]
  have hown2 : w2.ownsMap Try.prog 3 (plainElem Try.prog 3) w.heap.size 0 (.map [] : DataW Unit) := hw2 ▸ hown
  have H2 := Lib.hid hw2
  obtain ⟨sv, hse⟩ : ∃ sv, sv = (if (f k).getD 0 < clk now then clk now else (f k).getD 0) := ⟨_, rfl⟩
  rw [← hse] at hwv ⊢
  have HS := Lib.hid hse
  clear hse hw2 hl hq c1 c2 hmm
  go_wp2_with (at_mapUpdate; refine wpList_mapUpdate_in _ rfl _ _ _ 39 rfl 3 3 kint Try.underlying39 _ w.heap.size 0 _ rfl hown2 (by unfold maxLen; omega) _ _ _ rfl rfl (keyOf_int_mk Try.underlying3 hwk) _ [] (plainElem_int Try.underlying3 hwv) ?_; intro w3 hown3 hturn3)
  go_ret
  have hse := HS.out
  subst hse
  have hg := hturn3.grown
  rw [← H2.out] at hg
  have hne : some b ≠ some w.heap.size := by simp; omega
  have hs1 : w1.heap.size = w.heap.size + 1 := by rw [H1.out]; simp
  refine ⟨rfl, ⟨?_, h.lo, h.hi, .inr ⟨_, _, rfl, hown3, ?_⟩⟩, ?_⟩
  · exact (hg.block b (by show b < w1.heap.size; omega) hne).trans hB1.blk
  · have e : f = (fun _ => none) := funext HF.out
    have := View.empty.put isMap_empty (k := k) (v := seenV f k now) ⟨hk0, hk1, hsv⟩
    rw [e] at this ⊢
    exact this
  · refine ⟨hg.os.trans hgr.os, hg.tape.trans hgr.tape, hg.output.trans hgr.output, Nat.le_trans hgr.size hg.size, fun i hi hne' => ?_⟩
    rw [← hgr.block i hi hne']
    exact hg.block i (by show i < w1.heap.size; omega) (by simp; omega)

set_option maxHeartbeats 400000 in
theorem seen_yes (w : World) (b mb : Nat) (L : Int) (n : Nat) (f : Int → Option Int) (h : BeatAt w b (some mb) L n f) (hn : n < 1000000) (k now : Int) (hk0 : 0 ≤ k) (hk1 : k < 64) :
    Calls Try.prog 10 #[.pointer (some ⟨b, 0, none⟩), .int .i64 k, .int .i64 now] w fun e w' => e = .returned (.bool true) ∧ BeatAt w' b (some mb) L (n + 1) (upd f k (some (seenV f k now))) ∧ w.grownBy w' (some mb) := by
  have c1 := h.c1
  have hwk : (Lit.int .i64 k).wf = true := wf64 (by omega) (by omega)
  have hl := MapII.look1 (w := w.drew) h.map k hwk
  have hsv := seenV_lo f (fun k v hf => (h.map.rng k v hf).2.2) k now
  have hwv : (Lit.int .i64 (seenV f k now)).wf = true := wf64 (by omega) (by omega)
  unfold seenV at hwv
  obtain ⟨D, hown, hv⟩ : ∃ D, w.ownsMap Try.prog 3 (plainElem Try.prog 3) mb n D ∧ View D f := by
    rcases h.map with ⟨h, _⟩ | ⟨mb', D, e, h1, h2⟩
    · cases h
    · cases e; exact ⟨D, h1, h2⟩
  have hlt : b < w.heap.size := (Array.getElem?_eq_some_iff.1 h.blk).1
  have hne : b ≠ mb := by
    rintro rfl
    obtain ⟨es, clock, hb, _⟩ := hown
    rw [h.blk] at hb; cases hb
  have g1 := clk_lo now
  have g2 := clk_hi now
  have hq : ∀ w, (binOp .eql 39 (.map (some mb)) (.map none)).run Try.prog w = .ok (.bool false) w := fun w => by kernel_rfl
  go_enter Try.func10, Try.ntmps10
  go_wp2
  go_still_tail 14, (by kernel_rfl)
  still_call (clock_any _ _)
  repeat still_step
  refine wpStill_nil ?_
  change wpList _ _ _ _ _ w.drew
  obtain ⟨w2, hw2⟩ : ∃ w2, w.drew = w2 := ⟨_, rfl⟩
  rw [hw2]
  have hown2 : w2.ownsMap Try.prog 3 (plainElem Try.prog 3) mb n D := hw2 ▸ hown
  have H2 := Lib.hid hw2
  obtain ⟨sv, hse⟩ : ∃ sv, sv = (if (f k).getD 0 < clk now then clk now else (f k).getD 0) := ⟨_, rfl⟩
  rw [← hse] at hwv ⊢
  have HS := Lib.hid hse
  clear hse hw2 hl hq c1
  go_wp2_with (at_mapUpdate; refine wpList_mapUpdate_in _ rfl _ _ _ 39 rfl 3 3 kint Try.underlying39 _ mb n D rfl hown2 (by unfold maxLen; omega) _ _ _ rfl rfl (keyOf_int_mk Try.underlying3 hwk) _ [] (plainElem_int Try.underlying3 hwv) ?_; intro w3 hown3 hturn3)
  go_ret
  have hse := HS.out
  subst hse
  refine ⟨rfl, ⟨?_, h.lo, h.hi, .inr ⟨mb, _, rfl, hown3, hv.put (hown.isMap) ⟨hk0, hk1, hsv⟩⟩⟩, ?_⟩
  · exact (hturn3.grown.block b (by rw [← H2.out]; exact hlt) (by simpa using hne)).trans (by rw [← H2.out]; exact h.blk)
  · have hg := hturn3.grown
    rw [← H2.out] at hg
    exact ⟨hg.os, hg.tape, hg.output, hg.size, hg.block⟩
theorem seen_no (w : World) (p : Option Addr) (k now : Int) (h : p = none ∨ k < 0 ∨ 64 ≤ k) :
    Calls Try.prog 10 #[.pointer p, .int .i64 k, .int .i64 now] w fun e w' => e = .returned (.bool false) ∧ w' = w := by
  cases p with
  | none =>
    go_enter Try.func10, Try.ntmps10
    go_wp2
    go_ret
    exact ⟨rfl, rfl⟩
  | some a =>
    have h : k < 0 ∨ 64 ≤ k := by simpa using h
    by_cases h0 : k < 0
    · go_enter Try.func10, Try.ntmps10
      go_wp2
      go_ret
      exact ⟨rfl, rfl⟩
    · have h1 : 64 ≤ k := by omega
      go_enter Try.func10, Try.ntmps10
      go_wp2
      go_ret
      exact ⟨rfl, rfl⟩

/-- Seen, at whatever beat. -/
theorem seen_any (w : World) (b : Nat) (mo : Option Nat) (L : Int) (n : Nat) (f : Int → Option Int) (h : BeatAt w b mo L n f) (hn : n < 1000000) (k now : Int) (hk0 : 0 ≤ k) (hk1 : k < 64) :
    Calls Try.prog 10 #[.pointer (some ⟨b, 0, none⟩), .int .i64 k, .int .i64 now] w fun e w' => e = .returned (.bool true) ∧
      ∃ mo', BeatAt w' b mo' L (n + 1) (upd f k (some (seenV f k now))) ∧ Touch (b :: mo.toList) w w' ∧ ∀ m, mo' = some m → mo = some m ∨ w.heap.size ≤ m := by
  cases mo with
  | none =>
    refine (seen_none w b L n f h k now hk0 hk1).mono ?_
    rintro e w' ⟨he, hb, hg⟩
    refine ⟨he, _, ⟨hb.blk, hb.lo, hb.hi, ?_⟩, (Touch.of_grown hg).mono (by simp), fun m hm => .inr (by simp at hm; omega)⟩
    rcases hb.map with ⟨e, _⟩ | ⟨mb, D, e, ho, hv⟩
    · cases e
    · exact .inr ⟨mb, D, e, ho.mono (by omega), hv⟩
  | some mb =>
    refine (seen_yes w b mb L n f h hn k now hk0 hk1).mono ?_
    rintro e w' ⟨he, hb, hg⟩
    exact ⟨he, _, hb, (Touch.of_grown hg).mono (by simp), fun m hm => .inl hm⟩

theorem forget_any (w : World) (b : Nat) (mo : Option Nat) (L : Int) (n : Nat) (f : Int → Option Int) (h : BeatAt w b mo L n f) (k : Int) (hk : (Lit.int .i64 k).wf = true) :
    Calls Try.prog 12 #[.pointer (some ⟨b, 0, none⟩), .int .i64 k] w fun e w' => e = .returned (.bool (f k).isSome) ∧
      BeatAt w' b mo L n (upd f k none) ∧ Touch (b :: mo.toList) w w' := by
  have c1 := h.c1
  have hl := last_any w b mo L n f h k hk
  have HL := Lib.hid hl
  clear hl
  cases hv : f k with
  | none =>
    rw [hv] at HL
    have HV := Lib.hid hv
    clear hv
    go_enter Try.func12, Try.ntmps12
    go_wp2_with (go_at_call 14; refine HL.out.mono ?_; rintro e w' ⟨rfl, rfl⟩)
    go_ret
    have e : upd f k none = f := by funext j; unfold upd; split
                                    · subst_vars; exact HV.out.symm
                                    · rfl
    rw [e]
    exact ⟨rfl, h, Touch.refl _ _⟩
  | some v =>
    rw [hv] at HL
    obtain ⟨mb, D, rfl, hown, hvw⟩ : ∃ mb D, mo = some mb ∧ w.ownsMap Try.prog 3 (plainElem Try.prog 3) mb n D ∧ View D f := by
      rcases h.map with ⟨_, h0⟩ | h1
      · rw [h0 k] at hv; cases hv
      · exact h1
    clear hv
    go_enter Try.func12, Try.ntmps12
    go_wp2_with (first
      | (go_at_call 14; refine HL.out.mono ?_; rintro e w' ⟨rfl, rfl⟩)
      | (at_delete; refine wpList_delete_own _ rfl _ _ 39 3 rfl 3 kint Try.underlying39 _ mb n D rfl hown _ _ rfl (keyOf_int_mk Try.underlying3 hk) ?_; intro w1 hown1 hturn1))
    go_ret
    have hg := hturn1.grown
    refine ⟨rfl, ⟨(hg.block b h.blk.lt (by rintro e; cases e; obtain ⟨es, c, hb, _⟩ := hown; exact h.blk.ne_map hb rfl)).trans h.blk, h.lo, h.hi, .inr ⟨mb, _, rfl, hown1, hvw.del k⟩⟩, (Touch.of_grown hg).mono (by simp)⟩

theorem forget_nil (w : World) (k : Int) :
    Calls Try.prog 12 #[.pointer none, .int .i64 k] w fun e w' => e = .returned (.bool false) ∧ w' = w := by
  go_enter Try.func12, Try.ntmps12
  go_wp2_with (go_at_call 14; refine (last_nil _ _).mono ?_; rintro e w' ⟨rfl, rfl⟩)
  go_ret
  exact ⟨rfl, rfl⟩

theorem alive_nil (w : World) (k now : Int) :
    Calls Try.prog 18 #[.pointer none, .int .i64 k, .int .i64 now] w fun e w' => e = .returned (.bool false) ∧ ∃ j, w' = w.drewN j := by
  go_enter Try.func18, Try.ntmps18
  go_wp2_with (go_at_call 14; refine (last_nil _ _).mono ?_; rintro e w' ⟨rfl, rfl⟩)
  go_quiet (fail)
  go_wp2
  go_ret
  exact ⟨rfl, _, rfl⟩

theorem due_nil (w : World) (now : Int) :
    Calls Try.prog 16 #[.pointer none, .int .i64 now] w fun e w' => e = .returned (.tuple #[.int .i64 0, .bool false]) ∧ w' = w := by
  go_enter Try.func16, Try.ntmps16
  go_wp2
  go_ret2
  exact ⟨rfl, rfl⟩

theorem all_nil (w : World) (now : Int) :
    Calls Try.prog 20 #[.pointer none, .int .i64 now] w fun e w' => e = .returned (.slice none 0 0) ∧ Touch [] w w' := by
  go_enter Try.func20, Try.ntmps20
  go_wp2
  go_ret
  exact ⟨rfl, (Touch.refl _ _).alloc _⟩

theorem BeatAt.touch {S : List Nat} {w w' : World} {b : Nat} {mo : Option Nat} {L : Int} {n : Nat} {f : Int → Option Int} (h : BeatAt w b mo L n f) (ht : Touch S w w') (hb : b ∉ S) (hm : ∀ m, mo = some m → m ∉ S) : BeatAt w' b mo L n f := by
  refine ⟨ht.blk h.blk hb, h.lo, h.hi, ?_⟩
  rcases h.map with h1 | ⟨mb, D, e, ⟨es, clock, hh, hr⟩, hv⟩
  · exact .inl h1
  · exact .inr ⟨mb, D, e, ⟨es, clock, ht.heap hh (hm mb e), hr⟩, hv⟩
theorem BeatAt.drewN {w : World} {b : Nat} {mo : Option Nat} {L : Int} {n : Nat} {f : Int → Option Int} (h : BeatAt w b mo L n f) (j : Nat) : BeatAt (w.drewN j) b mo L n f := ⟨h.blk, h.lo, h.hi, h.map⟩
theorem BeatAt.lt_map {w : World} {b m : Nat} {mo : Option Nat} {L : Int} {n : Nat} {f : Int → Option Int} (h : BeatAt w b mo L n f) (hm : mo = some m) : m < w.heap.size := by
  rcases h.map with ⟨e, _⟩ | ⟨mb, D, e, ⟨es, clock, hh, hr⟩, hv⟩
  · rw [e] at hm; cases hm
  · rw [e] at hm; cases hm; exact lt_of_heap hh

theorem View.some_of {D : DataW Unit} {f : Int → Option Int} (h : View D f) {x c : Int} (hat : ∀ zd, D.atKey (.int .i64 x) zd = .lit (.int .i64 c)) : f x = some c := by
  have h1 := has_true_of_atKey hat
  rw [h.has x] at h1
  cases hv : f x with
  | none => rw [hv] at h1; cases h1
  | some v =>
    have := h.at_ x v (.lit (.int .i64 0)) hv
    rw [hat] at this
    simp at this
    rw [this]

/-- the least time at which one of those that have come won't be alive any more -/
def Best (L : Int) (f : Int → Option Int) (now : Int) (left : Lit → Bool) (least : Int) : Prop :=
  (least = -1 ∧ ∀ k v, f k = some v → left (.int .i64 k) = false → aliveB L f k now = false) ∨
  (0 ≤ least ∧ (∃ k v, f k = some v ∧ aliveB L f k now = true ∧ least = v + L + 1) ∧ ∀ k v, f k = some v → left (.int .i64 k) = false → aliveB L f k now = true → least ≤ v + L + 1)

theorem strike_self (left : Lit → Bool) (x k : Int) : (left (.int .i64 k) && !(Lit.int .i64 k).sameKey (.int .i64 x)) = false ↔ left (.int .i64 k) = false ∨ k = x := by
  by_cases e : k = x
  · subst e; simp [Lit.sameKey]
  · rw [sameKey_ne (by simpa using e)]; simp [e]

theorem Best.skip {L : Int} {f : Int → Option Int} {now : Int} {left : Lit → Bool} {least x : Int} (h : Best L f now left least) (ha : aliveB L f x now = false) :
    Best L f now (fun z => left z && !z.sameKey (.int .i64 x)) least := by
  rcases h with ⟨h1, h2⟩ | ⟨h0, h1, h2⟩
  · refine .inl ⟨h1, fun k v hv hl => ?_⟩
    rcases (strike_self left x k).1 hl with h3 | rfl
    · exact h2 k v hv h3
    · exact ha
  · refine .inr ⟨h0, h1, fun k v hv hl hk => ?_⟩
    rcases (strike_self left x k).1 hl with h3 | rfl
    · exact h2 k v hv h3 hk
    · rw [ha] at hk; cases hk
theorem Best.take {L : Int} {f : Int → Option Int} {now : Int} {left : Lit → Bool} {least x c : Int} (h : Best L f now left least) (hx : f x = some c) (ha : aliveB L f x now = true) (hc : 0 ≤ c + L + 1) (hl : least < 0 ∨ c + L + 1 < least) :
    Best L f now (fun z => left z && !z.sameKey (.int .i64 x)) (c + L + 1) := by
  refine .inr ⟨hc, ⟨x, c, hx, ha, rfl⟩, fun k v hv hlk hk => ?_⟩
  rcases (strike_self left x k).1 hlk with h3 | rfl
  · rcases h with ⟨h1, h2⟩ | ⟨h0, h1, h2⟩
    · rw [h2 k v hv h3] at hk; cases hk
    · have := h2 k v hv h3 hk; omega
  · rw [hx] at hv; cases hv; omega
theorem Best.keep {L : Int} {f : Int → Option Int} {now : Int} {left : Lit → Bool} {least x c : Int} (h : Best L f now left least) (hx : f x = some c) (h0 : 0 ≤ least) (hl : least ≤ c + L + 1) :
    Best L f now (fun z => left z && !z.sameKey (.int .i64 x)) least := by
  rcases h with ⟨h1, h2⟩ | ⟨_, h1, h2⟩
  · omega
  · refine .inr ⟨h0, h1, fun k v hv hlk hk => ?_⟩
    rcases (strike_self left x k).1 hlk with h3 | rfl
    · exact h2 k v hv h3 hk
    · rw [hx] at hv; cases hv; exact hl

def IsDue (L : Int) (f : Int → Option Int) (now : Int) (t : Int) (is : Bool) : Prop :=
  (is = false ∧ t = 0 ∧ ∀ k v, f k = some v → aliveB L f k now = false) ∨
  (is = true ∧ (∃ k v, f k = some v ∧ aliveB L f k now = true ∧ t = v + L + 1) ∧ ∀ k v, f k = some v → aliveB L f k now = true → t ≤ v + L + 1)

def DueEnd (L : Int) (f : Int → Option Int) (now : Int) (w : World) (e : Ending) (w' : World) : Prop :=
  ∃ t is, e = .returned (.tuple #[.int .i64 t, .bool is]) ∧ IsDue L f now t is ∧ Touch [] w w'
theorem Best.due0 {L : Int} {f : Int → Option Int} {now : Int} {left : Lit → Bool} {least : Int} (h : Best L f now left least) (hl : ∀ kl, left kl = false) (h0 : least < 0) : IsDue L f now 0 false := by
  rcases h with ⟨h1, h2⟩ | ⟨h0, h1, h2⟩
  · exact .inl ⟨rfl, rfl, fun k v hv => h2 k v hv (hl _)⟩
  · omega
theorem Best.due1 {L : Int} {f : Int → Option Int} {now : Int} {left : Lit → Bool} {least : Int} (h : Best L f now left least) (hl : ∀ kl, left kl = false) (h0 : 0 ≤ least) : IsDue L f now least true := by
  rcases h with ⟨h1, h2⟩ | ⟨h0, h1, h2⟩
  · omega
  · exact .inr ⟨rfl, h1, fun k v hv => h2 k v hv (hl _)⟩

set_option maxHeartbeats 1000000 in
theorem due_some (w : World) (b mb : Nat) (L : Int) (n : Nat) (f : Int → Option Int) (h : BeatAt w b (some mb) L n f) (now : Int) :
    Calls Try.prog 16 #[.pointer (some ⟨b, 0, none⟩), .int .i64 now] w (DueEnd L f now w) := by
  obtain ⟨D, hown, hv⟩ : ∃ D, w.ownsMap Try.prog 3 (plainElem Try.prog 3) mb n D ∧ View D f := by
    rcases h.map with ⟨h, _⟩ | ⟨mb', D, e, h1, h2⟩
    · cases h
    · cases e; exact ⟨D, h1, h2⟩
  have c1 := h.c1
  have lo := h.lo
  have hi := h.hi
  go_enter Try.func16, Try.ntmps16
  go_wp2_with (at_range; refine wpList_range_own _ rfl _ 39 rfl 3 3 kint Try.underlying39 _ mb n _ rfl hown ?_; intro w0 hrg0 hg0 hs0)
  go_frame
  go_loopw [6] (fun u wr => ∃ (left : Lit → Bool) (cnt : Nat) (least : Int), u = .int .i64 least ∧ wr.ranges Try.prog 3 (plainElem Try.prog 3) mb w.heap.size n D left cnt ∧ Touch [] w wr ∧ Best L f now left least)
    (fun _ wr => wr.rangeLeft mb w.heap.size)
  case atStart =>
    refine ⟨_, _, -1, rfl, hrg0, (Touch.of_grown hg0), .inl ⟨rfl, fun k v hk hl => ?_⟩⟩
    rw [hv.has k, hk] at hl; cases hl
  case round =>
    obtain ⟨left, cnt, least, rfl, hrg, htw, hbest⟩ := hrel
    clear c1
    have hB := h.touch htw (by simp) (by simp)
    have c1 := hB.c1
    have c0 := hB.c0
    go_wp2_with (at_next; refine wpList_next_ranges_ii _ rfl _ rfl 3 3 .i64 .i64 kint Try.underlying3 Try.underlying3 mb w.heap.size n _ _ _ rfl hrg ?_ ?_)
    · intro _ hl0
      have q0 := fun h => hbest.due0 hl0 h
      have q1 := fun h => hbest.due1 hl0 h
      have Q0 := Lib.hid q0
      have Q1 := Lib.hid q1
      clear q0 q1 hl0 c0 c1
      by_cases hlt : least < 0
      · go_wp2
        go_ret2
        refine ⟨0, false, ?_, Q0.out hlt, htw⟩
        simp <;> omega
      · go_wp2
        go_ret2
        refine ⟨least, true, ?_, Q1.out (by omega), htw⟩
        simp <;> omega
    · intro x c w1 cnt1 hwx hwc hlx hat hrg1 hlt hg1 hs1 hen
      have hfx := hv.some_of hat
      have hc := hv.key x c hfx
      have ht1 : Touch [] w w1 := htw.trans (Touch.of_grown hg1) (by simp)
      have hB1 := h.touch ht1 (by simp) (by simp)
      have hal := alive_any w1 b (some mb) L n f hB1 (fun k v hk => (hv.key k v hk).2.2) x now hwx
      have HAL := Lib.hid hal
      have HAT := Lib.hid hat
      have HFX := Lib.hid hfx
      have HLX := Lib.hid hlx
      clear hal hat hfx hlx hs1 c0 c1
      have c1 := hB1.c1
      have c0 := hB1.c0
      cases ha : aliveB L f x now with
      | false =>
        rw [ha] at HAL
        have HA := Lib.hid ha
        clear ha
        go_wp2_with (go_at_call 18; refine HAL.out.mono ?_; rintro e w2 ⟨rfl, j2, rfl⟩)
        go_roundw
        case rel => exact ⟨_, cnt1, least, rfl, (show (w1.drewN j2).ranges _ _ _ _ _ _ _ (fun z => left z && !z.sameKey (Lit.int .i64 x)) _ from hrg1), ht1.drewN_ _, hbest.skip HA.out⟩
        case measure => show World.rangeLeft w1 _ _ < _; rw [hrg1.left_eq, hrg.left_eq]; exact hlt
      | true =>
        rw [ha] at HAL
        have HA := Lib.hid ha
        clear ha
        by_cases h0 : least < 0
        · go_wp2_with (go_at_call 18; refine HAL.out.mono ?_; rintro e w2 ⟨rfl, j2, rfl⟩)
          go_roundw
          case rel => exact ⟨_, cnt1, _, rfl, (show (w1.drewN j2).ranges _ _ _ _ _ _ _ (fun z => left z && !z.sameKey (Lit.int .i64 x)) _ from hrg1), ht1.drewN_ _, hbest.take HFX.out HA.out (by omega) (.inl h0)⟩
          case measure => show World.rangeLeft w1 _ _ < _; rw [hrg1.left_eq, hrg.left_eq]; exact hlt
        · by_cases h2 : c + L + 1 < least
          · go_wp2_with (go_at_call 18; refine HAL.out.mono ?_; rintro e w2 ⟨rfl, j2, rfl⟩)
            go_roundw
            case rel => exact ⟨_, cnt1, _, rfl, (show (w1.drewN j2).ranges _ _ _ _ _ _ _ (fun z => left z && !z.sameKey (Lit.int .i64 x)) _ from hrg1), ht1.drewN_ _, hbest.take HFX.out HA.out (by omega) (.inr h2)⟩
            case measure => show World.rangeLeft w1 _ _ < _; rw [hrg1.left_eq, hrg.left_eq]; exact hlt
          · go_wp2_with (go_at_call 18; refine HAL.out.mono ?_; rintro e w2 ⟨rfl, j2, rfl⟩)
            go_roundw
            case rel => exact ⟨_, cnt1, least, rfl, (show (w1.drewN j2).ranges _ _ _ _ _ _ _ (fun z => left z && !z.sameKey (Lit.int .i64 x)) _ from hrg1), ht1.drewN_ _, hbest.keep HFX.out (by omega) (by omega)⟩
            case measure => show World.rangeLeft w1 _ _ < _; rw [hrg1.left_eq, hrg.left_eq]; exact hlt
theorem due_none (w : World) (b : Nat) (L : Int) (n : Nat) (f : Int → Option Int) (h : BeatAt w b none L n f) (now : Int) :
    Calls Try.prog 16 #[.pointer (some ⟨b, 0, none⟩), .int .i64 now] w (DueEnd L f now w) := by
  have hf : ∀ k, f k = none := by
    rcases h.map with ⟨_, h⟩ | ⟨_, _, e, _⟩
    · exact h
    · cases e
  have hfin : IsDue L f now 0 false := .inl ⟨rfl, rfl, fun k v hv => by rw [hf k] at hv; cases hv⟩
  have H1 := Lib.hid hfin
  clear hfin hf
  have c1 := h.c1
  have hrg := run_range_nilMap (P := Try.prog) w 39 3 3 Try.underlying39
  have hnx : ∀ ty, (Instr.next (.pointer (some ⟨w.heap.size, 0, none⟩)) false ty).run Try.prog (w.alloc (.mapIter none 0 #[] 0)) = _ := fun ty => run_next_nilMap w ty 0 0 #[]
  go_enter Try.func16, Try.ntmps16
  go_wp2
  refine wp_loop_rounds 1 ?_
  rw [rounds_succ]
  go_wp2
  go_ret2
  exact ⟨0, false, rfl, H1.out, (Touch.refl _ _).alloc _⟩

theorem due_any (w : World) (b : Nat) (mo : Option Nat) (L : Int) (n : Nat) (f : Int → Option Int) (h : BeatAt w b mo L n f) (now : Int) :
    Calls Try.prog 16 #[.pointer (some ⟨b, 0, none⟩), .int .i64 now] w (DueEnd L f now w) := by
  cases mo with
  | none => exact due_none w b L n f h now
  | some mb => exact due_some w b mb L n f h now

/-- the closure in All: of a method value and a time -/
theorem all1_any (w : World) (A N b : Nat) (mo : Option Nat) (L : Int) (n : Nat) (f : Int → Option Int) (h : BeatAt w b mo L n f) (x now : Int) (hx : (Lit.int .i64 x).wf = true)
    (hA : w.cell? ⟨A, 0, none⟩ = some (.func (.func 18) #[.pointer (some ⟨b, 0, none⟩)] #[])) (hN : w.cell? ⟨N, 0, none⟩ = some (.int .i64 now)) :
    Calls Try.prog 26 #[.int .i64 x, .pointer (some ⟨A, 0, none⟩), .pointer (some ⟨N, 0, none⟩)] w fun e w' => e = .returned (.bool (!aliveB L f x now)) ∧ ∃ j, w' = w.drewN j := by
  have hal := alive_any w b mo L n f h (fun k v hk => (h.map.rng k v hk).2.2) x now hx
  have HAL := Lib.hid hal
  clear hal
  go_enter Try.func26, Try.ntmps26
  go_wp2_with (go_at_call 18; refine HAL.out.mono ?_; rintro e w2 ⟨rfl, j2, rfl⟩)
  go_ret
  exact ⟨rfl, _, rfl⟩

theorem clk_in (n : Int) (h0 : 0 ≤ n) (h1 : n ≤ 1125899906842624) : clk n = n := by unfold clk; omega
theorem Touch.beat {w w' : World} {b : Nat} {mo : Option Nat} {B : Nat} (h : Touch (b :: mo.toList) w w') (hb : B ≤ b) (hm : ∀ m, mo = some m → B ≤ m) : ∀ k ∈ b :: mo.toList, k ∈ ([] : List Nat) ∨ B ≤ k := by
  intro k hk
  simp at hk
  rcases hk with rfl | hk
  · exact .inr hb
  · exact .inr (hm k hk)

def inR (k : Int) : Bool := decide (0 ≤ k) && decide (k < 64)
def seenF (f : Int → Option Int) (k now : Int) : Int → Option Int := if 0 ≤ k ∧ k < 64 then upd f k (some (seenV f k now)) else f
theorem seenF_other (f : Int → Option Int) (k now j : Int) (h : j ≠ k) : seenF f k now j = f j := by
  unfold seenF; split
  · simp [upd, h]
  · rfl
/-- Seen, of whatever node -/
theorem seen_tot (w : World) (b : Nat) (mo : Option Nat) (L : Int) (n : Nat) (f : Int → Option Int) (h : BeatAt w b mo L n f) (hn : n < 1000000) (k now : Int) :
    Calls Try.prog 10 #[.pointer (some ⟨b, 0, none⟩), .int .i64 k, .int .i64 now] w fun e w' => e = .returned (.bool (inR k)) ∧
      ∃ mo' n', BeatAt w' b mo' L n' (seenF f k now) ∧ n' ≤ n + 1 ∧ Touch (b :: mo.toList) w w' ∧ ∀ m, mo' = some m → mo = some m ∨ w.heap.size ≤ m := by
  by_cases hk : 0 ≤ k ∧ k < 64
  · have e1 : inR k = true := by simp [inR, hk]
    have e2 : seenF f k now = upd f k (some (seenV f k now)) := by unfold seenF; rw [if_pos hk]
    rw [e1, e2]
    refine (seen_any w b mo L n f h hn k now hk.1 hk.2).mono ?_
    rintro e w' ⟨he, mo', hb, ht, hm⟩
    exact ⟨he, mo', n + 1, hb, Nat.le_refl _, ht, hm⟩
  · have e1 : inR k = false := by unfold inR; by_cases h0 : 0 ≤ k <;> simp [h0] <;> omega
    have e2 : seenF f k now = f := by unfold seenF; rw [if_neg hk]
    rw [e1, e2]
    refine (seen_no w (some ⟨b, 0, none⟩) k now (.inr (by omega))).mono ?_
    rintro e w' ⟨he, rfl⟩
    exact ⟨he, mo, n, h, by omega, Touch.refl _ _, fun m hm => .inl hm⟩

end Go.Proofs.Ytknkomnhfkbmiaa

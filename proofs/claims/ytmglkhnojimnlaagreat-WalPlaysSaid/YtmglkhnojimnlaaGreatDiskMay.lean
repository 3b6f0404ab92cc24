/- Package disk: may, then. -/
import Derived.Test.YtmglkhnojimnlaaGreatDisk
import Derived.Laws.EntriesVeiled
namespace Go.Proofs.YtmglkhnojimnlaaGreat
open Go.RowKit Go.Maps Go.WideMaps
open DM (N F FL Sorted)

theorem bad_iff (s : ByteArray) : DM.bad (nm s) = (decide (s.size = 0) || decide (40 < s.size)) := by
  unfold DM.bad; rw [nm_size]
  by_cases h : s.size = 0 <;> simp [h]
theorem may1_off (d : DM.D) (t : Bool) (k : N) (h : d.off = true) : DM.may1 d t k = 14 := by unfold DM.may1; rw [if_pos h]
theorem may1_bad (d : DM.D) (t : Bool) (k : N) (h : d.off = false) (hb : DM.bad k = true) : DM.may1 d t k = 1 := by unfold DM.may1; rw [if_neg (by simp [h]), if_pos hb]
theorem may1_ok (d : DM.D) (t : Bool) (k : N) (h : d.off = false) (hb : DM.bad k = false) : DM.may1 d t k = if t && (DM.look d.fl k).isNone then 12 else 0 := by
  unfold DM.may1; rw [if_neg (by simp [h]), if_neg (by simp [hb])]
theorem isEmpty_of_size (s : ByteArray) (h : s.size = 0) : s.toList.isEmpty = true := by
  rw [ByteArray.toList_eq]
  have : s.data.toList.length = 0 := by rw [Array.length_toList]; exact h
  rw [List.length_eq_zero_iff.1 this]
  rfl
theorem isEmpty_of_pos (s : ByteArray) (h : s.size ≠ 0) : s.toList.isEmpty = false := by
  rw [ByteArray.toList_eq]
  cases hl : s.data.toList with
  | nil =>
    have : s.data.toList.length = 0 := by rw [hl]; rfl
    rw [Array.length_toList] at this
    exact absurd this h
  | cons a l => rfl

theorem cell_lt' {w : World} {g i : Nat} {v : Value} (h : w.cell? ⟨g, i, none⟩ = some v) : g < w.heap.size := by
  unfold World.cell? at h
  split at h
  · exact lt_of_heap (by assumption)
  · cases h

set_option maxRecDepth 10000 in
set_option maxHeartbeats 400000 in
theorem may1_any (w : World) (b : Nat) (mo : Option Nat) (n : Nat) (d : DM.D) (h : DiskAt w b mo n d) (g : Nat) (s : ByteArray) (hg : w.cell? ⟨g, 0, none⟩ = some (.string s)) (t : Bool) (hs : s.size ≤ maxLen) :
    Calls Tryz.prog 75 #[.pointer (some ⟨b, 0, none⟩), .bool t, .slice (some ⟨g, 0, none⟩) 1 1] w fun e w' => e = .returned (.int .i64 (DM.may1 d t (nm s))) ∧ Touch [] w w' := by
  unfold maxLen at hs
  have c1 := h.c1
  have c2 := h.c2
  have bl := bad_iff s
  cases ho : d.off with
  | true =>
    rw [may1_off d t _ ho]
    rw [ho] at c2
    clear bl ho
    go_enter Tryz.func75, Tryz.ntmps75
    go_wp2
    go_ret
    exact ⟨rfl, Touch.refl _ _⟩
  | false =>
    rw [ho] at c2
    by_cases h0 : s.size = 0
    · rw [may1_bad d t _ ho (by rw [bl]; simp [h0])]
      have he := isEmpty_of_size s h0
      clear bl ho h0
      go_enter Tryz.func75, Tryz.ntmps75
      go_wp2
      refine wp_loop_rounds 1 ?_
      rw [rounds_succ]
      go_wp2
      go_ret
      exact ⟨rfl, Touch.refl _ _⟩
    by_cases h4 : 40 < s.size
    · rw [may1_bad d t _ ho (by rw [bl]; simp [h4])]
      have he := isEmpty_of_pos s h0
      clear bl ho h0
      go_enter Tryz.func75, Tryz.ntmps75
      go_wp2
      refine wp_loop_rounds 1 ?_
      rw [rounds_succ]
      go_wp2
      go_ret
      exact ⟨rfl, Touch.refl _ _⟩
    have he := isEmpty_of_pos s h0
    rw [may1_ok d t _ ho (by rw [bl]; simp [h0]; omega)]
    clear bl ho h0
    have hl := MapF.look (w := w.drew) h.map s (by unfold maxLen; exact hs)
    have hl2 := MapF.look (w := (w.alloc (.cells #[.string ⟨#[]⟩, .int .i64 0] 66)).drew) (h.touch ((Touch.refl [] w).alloc (.cells #[.string ⟨#[]⟩, .int .i64 0] 66)).drew_ (by simp) (by simp)).map s (by unfold maxLen; exact hs)
    have hfv : fileV (DM.getF d.fl (nm s)) = .agg #[.string (DM.getF d.fl (nm s)).1, .int .i64 ((DM.getF d.fl (nm s)).2 : Int)] := rfl
    rw [hfv] at hl hl2
    obtain ⟨fd, hfd⟩ : ∃ fd, fd = (DM.getF d.fl (nm s)).1 := ⟨_, rfl⟩
    obtain ⟨fl, hfl⟩ : ∃ fl : Nat, fl = (DM.getF d.fl (nm s)).2 := ⟨_, rfl⟩
    rw [← hfd, ← hfl] at hl hl2
    clear hfv hfd hfl
    obtain ⟨is, his⟩ : ∃ is, is = (DM.look d.fl (nm s)).isSome := ⟨_, rfl⟩
    have hno : (DM.look d.fl (nm s)).isNone = !is := by rw [his]; cases DM.look d.fl (nm s) <;> rfl
    rw [hno]
    rw [← his] at hl hl2
    clear his hno
    have hg2 : (w.alloc (.cells #[.string ⟨#[]⟩, .int .i64 0] 66)).cell? ⟨g, 0, none⟩ = some (.string s) := (World.cell?_of_block (heap_old w _ (cell_lt' hg))).trans hg
    have c12 : (w.alloc (.cells #[.string ⟨#[]⟩, .int .i64 0] 66)).cell? ⟨b, 1, none⟩ = some (.map mo) := (World.cell?_of_block (heap_old w _ (cell_lt' c1))).trans c1
    go_enter Tryz.func75, Tryz.ntmps75
    go_wp2
    refine wp_loop_rounds 2 ?_
    rw [rounds_succ]
    go_wp2
    rw [rounds_succ]
    go_wp2
    go_region
    all_goals
      cases t <;> cases is
      all_goals
        go_wp2
        go_ret
        exact ⟨rfl, by repeat (first | exact Touch.refl _ _ | refine Touch.drew_ ?_ | refine Touch.alloc ?_ _ | refine Touch.setCell ?_ _ _ (.inr (by simp)))⟩

theorem may1_nil (w : World) (t : Bool) (sl : Value) :
    Calls Tryz.prog 75 #[.pointer none, .bool t, sl] w fun e w' => e = .returned (.int .i64 14) ∧ w' = w := by
  go_enter Tryz.func75, Tryz.ntmps75
  go_wp2
  go_ret
  exact ⟨rfl, rfl⟩

/-- then: an error is handed on -/
theorem then_err (w : World) (p : Option Addr) (e : Int) (v : Value) (he : e ≠ 0) :
    Calls Tryz.prog 77 #[.pointer p, .int .i64 e, v] w fun r w' => r = .returned (.int .i64 e) ∧ w' = w := by
  have he' : (e == 0) = false := by simpa using he
  clear he
  go_enter Tryz.func77, Tryz.ntmps77
  go_wp2
  go_ret
  exact ⟨rfl, rfl⟩
/-- then: the power goes -/
theorem then_off (w : World) (b : Nat) (mo : Option Nat) (n : Nat) (d : DM.D) (h : DiskAt w b mo n d) (hn : n < 1099511627776) (v : Value) (hl : d.left = 1) :
    Calls Tryz.prog 77 #[.pointer (some ⟨b, 0, none⟩), .int .i64 0, v] w fun r w' => r = .returned (.int .i64 14) ∧ DiskAt w' b mo (n + 1) { d with off := true } ∧ Touch [b] w w' := by
  have hs := step_any w b mo n d h hn
  rw [show DM.step d = (14, { d with off := true }) by unfold DM.step; rw [if_pos hl]] at hs
  have HS := Lib.hid hs
  clear hs hl hn
  go_enter Tryz.func77, Tryz.ntmps77
  go_wp2_with (go_at_call 98; refine HS.out.mono ?_; rintro r w1 ⟨rfl, hd, ht⟩)
  go_ret
  exact ⟨rfl, hd, ht⟩
/-- then: a step, and what is to be done -/
theorem then_do (w : World) (b : Nat) (mo : Option Nat) (n : Nat) (d : DM.D) (h : DiskAt w b mo n d) (hn : n < 1099511627776) (g : Nat) (cb : Array Value) (hl : d.left ≠ 1) (Q : World → World → Prop)
    (eg : ∀ args w, (callFunc g args).run Tryz.prog w = .ok (.enter g args) w)
    (hdo : ∀ w1, DiskAt w1 b mo (n + 1) (DM.step d).2 → Touch [b] w w1 → Calls Tryz.prog g cb w1 fun r w' => r = .returned (.tuple #[]) ∧ Q w1 w') :
    Calls Tryz.prog 77 #[.pointer (some ⟨b, 0, none⟩), .int .i64 0, .func (.func g) #[] cb] w fun r w' => r = .returned (.int .i64 0) ∧ ∃ w1, Touch [b] w w1 ∧ Q w1 w' := by
  have hs := step_any w b mo n d h hn
  rw [show (DM.step d).1 = 0 by unfold DM.step; rw [if_neg hl]] at hs
  have HS := Lib.hid hs
  have HD := Lib.hid hdo
  have HL := Lib.hid hl
  clear hs hl hn hdo
  go_enter Tryz.func77, Tryz.ntmps77
  go_wp2_with (go_at_call 98; refine HS.out.mono ?_; rintro r w1 ⟨rfl, hd, ht⟩)
  refine (HD.out w1 hd ht).mono ?_
  rintro r w2 ⟨rfl, hq⟩
  have HQ := Lib.hid hq
  clear hq
  go_wp2
  go_ret
  exact ⟨rfl, w1, ht, HQ.out⟩
end Go.Proofs.YtmglkhnojimnlaaGreat

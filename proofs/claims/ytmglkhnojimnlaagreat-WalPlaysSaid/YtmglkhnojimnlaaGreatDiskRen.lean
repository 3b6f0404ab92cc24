/- Package disk: Rename. -/
import Derived.Test.YtmglkhnojimnlaaGreatDiskCut
namespace Go.Proofs.YtmglkhnojimnlaaGreat
open Go.RowKit Go.Maps Go.WideMaps
open DM (N F FL Sorted)

set_option maxRecDepth 10000 in
set_option maxHeartbeats 800000 in
theorem may2_any (w : World) (b : Nat) (mo : Option Nat) (n : Nat) (d : DM.D) (h : DiskAt w b mo n d) (g : Nat) (s m : ByteArray) (hg : w.cell? ⟨g, 0, none⟩ = some (.string s)) (hg1 : w.cell? ⟨g, 1, none⟩ = some (.string m)) (hs : s.size ≤ maxLen) (hm : m.size ≤ maxLen) :
    Calls Tryz.prog 75 #[.pointer (some ⟨b, 0, none⟩), .bool true, .slice (some ⟨g, 0, none⟩) 2 2] w fun e w' => e = .returned (.int .i64 (DM.may2 d (nm s) (nm m))) ∧ Touch [] w w' := by
  unfold maxLen at hs hm
  have c1 := h.c1
  have c2 := h.c2
  have bl := bad_iff s
  have bm := bad_iff m
  cases ho : d.off with
  | true =>
    have hr : DM.may2 d (nm s) (nm m) = 14 := by unfold DM.may2; rw [if_pos ho]
    rw [hr]
    rw [ho] at c2
    clear bl bm ho hr
    go_enter Tryz.func75, Tryz.ntmps75
    go_wp2
    go_ret
    exact ⟨rfl, Touch.refl _ _⟩
  | false =>
    rw [ho] at c2
    have hbad : (DM.bad (nm s) || DM.bad (nm m)) = true → DM.may2 d (nm s) (nm m) = 1 := fun h => by unfold DM.may2; rw [if_neg (by simp [ho]), if_pos h]
    have hgood : (DM.bad (nm s) || DM.bad (nm m)) = false → DM.may2 d (nm s) (nm m) = if (DM.look d.fl (nm s)).isNone then 12 else 0 := fun h => by unfold DM.may2; rw [if_neg (by simp [ho]), if_neg (by simp [h])]
    by_cases h0 : s.size = 0
    · rw [hbad (by rw [bl]; simp [h0])]
      have he := isEmpty_of_size s h0
      clear bl bm ho h0 hbad hgood
      go_enter Tryz.func75, Tryz.ntmps75
      go_wp2
      refine wp_loop_rounds 1 ?_
      rw [rounds_succ]
      go_wp2
      go_ret
      exact ⟨rfl, Touch.refl _ _⟩
    by_cases h4 : 40 < s.size
    · rw [hbad (by rw [bl]; simp [h4])]
      have he := isEmpty_of_pos s h0
      clear bl bm ho h0 hbad hgood
      go_enter Tryz.func75, Tryz.ntmps75
      go_wp2
      refine wp_loop_rounds 1 ?_
      rw [rounds_succ]
      go_wp2
      go_ret
      exact ⟨rfl, Touch.refl _ _⟩
    have he := isEmpty_of_pos s h0
    by_cases hm0 : m.size = 0
    · rw [hbad (by rw [bm]; simp [hm0])]
      have hem := isEmpty_of_size m hm0
      clear bl bm ho h0 hbad hgood hm0
      go_enter Tryz.func75, Tryz.ntmps75
      go_wp2
      refine wp_loop_rounds 2 ?_
      rw [rounds_succ]
      go_wp2
      rw [rounds_succ]
      go_wp2
      go_ret
      exact ⟨rfl, Touch.refl _ _⟩
    by_cases hm4 : 40 < m.size
    · rw [hbad (by rw [bm]; simp [hm4])]
      have hem := isEmpty_of_pos m hm0
      clear bl bm ho h0 hbad hgood hm0
      go_enter Tryz.func75, Tryz.ntmps75
      go_wp2
      refine wp_loop_rounds 2 ?_
      rw [rounds_succ]
      go_wp2
      rw [rounds_succ]
      go_wp2
      go_ret
      exact ⟨rfl, Touch.refl _ _⟩
    have hem := isEmpty_of_pos m hm0
    rw [hgood (by rw [bl, bm]; simp [h0, hm0]; omega)]
    clear bl bm ho h0 hm0 hbad hgood
    have hl := MapF.look (w := w.drew) h.map s (by unfold maxLen; exact hs)
    have hl2 := MapF.look (w := (w.alloc (.cells #[.string ⟨#[]⟩, .int .i64 0] 66)).drew) (h.touch ((Touch.refl [] w).alloc (.cells #[.string ⟨#[]⟩, .int .i64 0] 66)).drew_ (by simp) (by simp)).map s (by unfold maxLen; exact hs)
    have hfv : fileV (DM.getF d.fl (nm s)) = .agg #[.string (DM.getF d.fl (nm s)).1, .int .i64 ((DM.getF d.fl (nm s)).2 : Int)] := rfl
    rw [hfv] at hl hl2
    obtain ⟨fd, hfd⟩ : ∃ fd, fd = (DM.getF d.fl (nm s)).1 := ⟨_, rfl⟩
    obtain ⟨fl, hfl⟩ : ∃ fl : Nat, fl = (DM.getF d.fl (nm s)).2 := ⟨_, rfl⟩
    rw [← hfd, ← hfl] at hl hl2
    clear hfv hfd hfl
    obtain ⟨is, his⟩ : ∃ is, is = (DM.look d.fl (nm s)).isSome := ⟨_, rfl⟩
    have hno : (DM.look d.fl (nm s)).isNone = !is := by rw [his]; cases DM.look d.fl (nm s) <;> rfl
    rw [hno]
    rw [← his] at hl hl2
    clear his hno
    have hg2 : (w.alloc (.cells #[.string ⟨#[]⟩, .int .i64 0] 66)).cell? ⟨g, 0, none⟩ = some (.string s) := (World.cell?_of_block (heap_old w _ (cell_lt' hg))).trans hg
    have c12 : (w.alloc (.cells #[.string ⟨#[]⟩, .int .i64 0] 66)).cell? ⟨b, 1, none⟩ = some (.map mo) := (World.cell?_of_block (heap_old w _ (cell_lt' c1))).trans c1
    go_enter Tryz.func75, Tryz.ntmps75
    go_wp2
    refine wp_loop_rounds 3 ?_
    rw [rounds_succ]
    go_wp2
    rw [rounds_succ]
    go_wp2
    rw [rounds_succ]
    go_wp2
    go_region
    all_goals
      cases is
      all_goals
        go_wp2
        go_ret
        exact ⟨rfl, by repeat (first | exact Touch.refl _ _ | refine Touch.drew_ ?_ | refine Touch.alloc ?_ _ | refine Touch.setCell ?_ _ _ (.inr (by simp)))⟩

end Go.Proofs.YtmglkhnojimnlaaGreat

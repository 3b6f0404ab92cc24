/- awake's walk: the chapter's examples. -/
import Derived.Test.YtknkomnhfkbmiaaBeatAll
namespace Go.Proofs.Ytknkomnhfkbmiaa
open Go.RowKit Go.Maps

def g1 : Int → Option Int := upd f0 3 (some (seenV f0 3 100))
def g2 : Int → Option Int := upd g1 3 (some (seenV g1 3 90))
theorem g2_is (k v : Int) (h : g2 k = some v) : k = 3 ∧ v = 100 := by
  unfold g2 upd at h
  by_cases e : k = 3
  · rw [if_pos e] at h; cases h; exact ⟨e, by decide⟩
  · rw [if_neg e] at h; unfold g1 upd at h; rw [if_neg e] at h; cases h
theorem g2_alive (k : Int) : aliveB 10 g2 k 105 = true ↔ k = 3 := by
  constructor
  · intro h
    unfold aliveB at h
    cases hk : g2 k with
    | none => rw [hk] at h; cases h
    | some v => exact (g2_is k v hk).1
  · rintro rfl; decide
theorem one_three {ss : List Int} (hp : ss.Pairwise (· < ·)) (hm : ∀ k, k ∈ ss ↔ k = 3) : ss = [3] := by
  match ss with
  | [] => exact absurd ((hm 3).2 rfl) (by simp)
  | [x] => have := (hm x).1 (by simp); rw [this]
  | x :: y :: l =>
    have h1 := (hm x).1 (by simp)
    have h2 := (hm y).1 (by simp)
    have := (List.pairwise_cons.1 hp).1 y (by simp)
    omega

set_option maxRecDepth 100000 in
set_option maxHeartbeats 1000000 in
theorem awake15 : AwakeOk 7 := by
  intro w
  have a1 : aliveB 10 g1 3 110 = true := by decide
  have a2 : aliveB 10 g1 3 111 = false := by decide
  have a3 : (g2 3).getD 0 = 100 := by decide
  have a4 : (g2 3).isSome = true := by decide
  have hb := beat_new w 10 (by omega) (by omega)
  have A1 := Lib.hid a1
  have A2 := Lib.hid a2
  have A3 := Lib.hid a3
  have A4 := Lib.hid a4
  clear a1 a2 a3 a4
  go_enter Try.func7, Try.ntmps7
  go_wp2_with fail
  refine (new_any _ _).mono ?_
  rintro e w1 ⟨rfl, hw1⟩
  rw [clk_in 10 (by omega) (by omega)] at hw1
  rw [← hw1] at hb
  have T1 : Touch [] w w1 := by rw [hw1]; exact (Touch.refl [] w).alloc _
  clear hw1
  go_wp2_with fail
  refine (seen_any _ _ none 10 0 f0 hb (by omega) 3 100 (by omega) (by omega)).mono ?_
  rintro e w2 ⟨rfl, m2, hb2, t2, hm2⟩
  change BeatAt w2 _ _ _ _ g1 at hb2
  have T2 : Touch [] w w2 := T1.trans t2 (t2.beat (Nat.le_refl _) (by simp))
  have hm2' : ∀ m, m2 = some m → w.heap.size ≤ m := fun m h => by rcases hm2 m h with h | h; cases h; exact Nat.le_trans T1.size h
  have R2 := Lib.hid (fun k v (hk : g1 k = some v) => (hb2.map.rng k v hk).2.2)
  clear hm2
  go_wp2_with fail
  refine (alive_any _ _ _ _ _ _ hb2 R2.out 3 110 (by decide)).mono ?_
  rw [A1.out]
  rintro e w3 ⟨rfl, j3, rfl⟩
  go_wp2_with fail
  refine (alive_any _ _ _ _ _ _ (hb2.drewN _) R2.out 3 111 (by decide)).mono ?_
  rw [A2.out]
  rintro e w3 ⟨rfl, j4, rfl⟩
  go_wp2_with fail
  refine (seen_any _ _ m2 10 1 g1 (hb2.drewN _) (by omega) 3 90 (by omega) (by omega)).mono ?_
  rintro e w5 ⟨rfl, m5, hb5, t5, hm5⟩
  change BeatAt w5 _ _ _ _ g2 at hb5
  have T5 : Touch [] w w5 := (T2.drewN_ _).trans t5 (t5.beat (Nat.le_refl _) hm2')
  clear hm5
  go_wp2_with fail
  refine (last_any _ _ _ _ _ _ hb5 3 (by decide)).mono ?_
  rw [A3.out, A4.out]
  rintro e w6 ⟨rfl, rfl⟩
  go_wp2_with fail
  refine (all_any _ _ _ _ _ _ hb5 (by omega) 105).mono ?_
  rintro e w7 ⟨a, cap, ss, rfl, hs, hp, hmem, T7⟩
  obtain rfl := one_three hp (fun k => (hmem k).trans (g2_alive k))
  obtain ⟨g, rfl, hc⟩ : ∃ g, a = some ⟨g, 0, none⟩ ∧ w7.cell? ⟨g, 0, none⟩ = some (.int .i64 3) := by
    rcases hs with h | ⟨g, h1, h2⟩
    · cases h
    · exact ⟨g, h1, h2 0 (by simp)⟩
  have hb7 := hb5.touch T7 (by simp) (by simp)
  clear hs hp hmem
  go_wp2_with fail
  refine (due_any _ _ _ _ _ _ hb7 105).mono ?_
  rintro e w8 ⟨t, is, rfl, hdue, T8⟩
  obtain ⟨rfl, rfl⟩ : t = 111 ∧ is = true := by
    rcases hdue with ⟨_, _, h⟩ | ⟨rfl, ⟨k, v, hk, _, rfl⟩, _⟩
    · have := h 3 100 (by decide)
      rw [(g2_alive 3).2 rfl] at this
      cases this
    · obtain ⟨_, rfl⟩ := g2_is k v hk; exact ⟨by omega, rfl⟩
  have hc8 : w8.cell? ⟨g, 0, none⟩ = some (.int .i64 3) := by
    have hg : g < w7.heap.size := by
      unfold World.cell? at hc
      split at hc
      · exact lt_of_heap (by assumption)
      · cases hc
    rw [← hc]
    exact World.cell?_of_block (T8.block g hg (by simp))
  clear hc hdue
  go_wp2_with fail
  go_ret
  exact ⟨rfl, (T5.trans T7 (by simp)).trans T8 (by simp)⟩
end Go.Proofs.Ytknkomnhfkbmiaa

/- BeatNil's walk, over awake's. -/
import Derived.Test.YtknkomnhfkbmiaaBeat
namespace Go.Proofs.Ytknkomnhfkbmiaa
open Go.RowKit Go.Maps

def AwakeOk (f : Nat) : Prop := ∀ w : World, Calls Try.prog f #[] w fun e w' => e = .returned (.bool true) ∧ Touch [] w w'

def f0 : Int → Option Int := fun _ => none

theorem beat_new (w : World) (L : Int) (h0 : 0 ≤ L) (h1 : L ≤ 1125899906842624) : BeatAt (w.alloc (.cells #[.int .i64 L, .map none] 41)) w.heap.size none L 0 f0 :=
  ⟨Blk.new w _ _, h0, h1, .inl ⟨rfl, fun _ => rfl⟩⟩

set_option maxRecDepth 100000 in
set_option maxHeartbeats 1000000 in
theorem beatNil_walk (haw : AwakeOk 7) (n : Int) (w : World) :
    Calls Try.prog 5 #[.int .i64 n] w fun e w' => e = .returned (.bool true) ∧ Touch [] w w' := by
  have HA := Lib.hid haw
  clear haw
  have hb := beat_new w 0 (by omega) (by omega)
  have a5 : aliveB 0 (upd f0 1 (some (seenV f0 1 5))) 1 5 = true := by decide
  have a6 : aliveB 0 (upd f0 1 (some (seenV f0 1 5))) 1 6 = false := by decide
  have A5 := Lib.hid a5
  have A6 := Lib.hid a6
  clear a5 a6
  go_enter Try.func5, Try.ntmps5
  go_wp2_with fail
  refine (last_nil _ _).mono ?_
  rintro e w1 ⟨rfl, rfl⟩
  go_wp2_with fail
  refine (due_nil _ _).mono ?_
  rintro e w1 ⟨rfl, rfl⟩
  go_wp2_with fail
  refine (seen_any _ _ none 0 0 f0 hb (by omega) 1 5 (by omega) (by omega)).mono ?_
  rintro e w1 ⟨rfl, mo1, hb1, ht1, hm1⟩
  have t1 : Touch [] w w1 := ((Touch.refl [] w).alloc _).trans ht1 (by simp)
  go_wp2_with fail
  refine (HA.out _).mono ?_
  rintro e w2 ⟨rfl, ht2⟩
  have hb2 := hb1.touch ht2 (by simp) (by simp)
  have t2 := t1.trans ht2 (by simp)
  go_wp2_with fail
  refine (seen_no _ none _ _ (.inl rfl)).mono ?_
  rintro e w3 ⟨rfl, rfl⟩
  go_wp2_with fail
  refine (forget_nil _ _).mono ?_
  rintro e w3 ⟨rfl, rfl⟩
  go_wp2_with fail
  refine (alive_nil _ _ _).mono ?_
  rintro e w3 ⟨rfl, j3, rfl⟩
  go_wp2_with fail
  refine (all_nil _ _).mono ?_
  rintro e w4 ⟨rfl, ht4⟩
  have hb4 := hb2.touch (((Touch.refl [] _).drewN_ j3).trans ht4 (by simp)) (by simp) (by simp)
  have t4 := (t2.drewN_ j3).trans ht4 (by simp)
  go_wp2_with fail
  refine (alive_any _ _ _ _ _ _ hb4 (fun k v hk => (hb4.map.rng k v hk).2.2) 1 5 (by decide)).mono ?_
  rw [A5.out]
  rintro e w5 ⟨rfl, j5, rfl⟩
  go_wp2_with fail
  refine (alive_any _ _ _ _ _ _ (hb4.touch (Touch.drewN [] _ _) (by simp) (by simp)) (fun k v hk => (hb4.map.rng k v hk).2.2) 1 6 (by decide)).mono ?_
  rw [A6.out]
  rintro e w6 ⟨rfl, j6, rfl⟩
  go_wp2_with fail
  go_ret
  exact ⟨rfl, t4.drewN_ _⟩

end Go.Proofs.Ytknkomnhfkbmiaa

/- CacheRanks: what is more trustworthy takes the place. -/
import Derived.Test.YtibbfihnhlgkeaaCacheB1
import Derived.Test.YtibbfihnhlgkeaaCacheA6
import Derived.Deep.DeepCutAuto
namespace Go.Proofs.Ytibbfihnhlgkeaa
open Go.RowKit Go.Maps Go.WideMaps
open NM (Bs bs ofBs)
open CM (It C)

def rk (a : Int) : Int := (if a.tmod 4 < 0 then -(a.tmod 4) else a.tmod 4) + 1
theorem rk_range (a : Int) : 1 ≤ rk a ∧ rk a ≤ 4 := by
  have := Int.tmod_lt_of_pos a (show (0:Int) < 4 by decide)
  have h2 := Int.lt_tmod_of_pos a (show (0:Int) < 4 by decide)
  unfold rk
  split <;> omega
abbrev rkE (til r s : Int) : CM.E := { entE 97 til with rank := r, src := s }
theorem ranks_may1 (til r : Int) (ht : 0 ≤ til ∧ til < 1099511627776) (hr : 1 ≤ r ∧ r ≤ 4) : CM.mayPut ⟨5, 0, []⟩ (rkE til r 0) 0 = true := by
  unfold CM.mayPut
  rw [CM.refused_nil _ rfl, decide_eq_true ⟨ent_check 97 (by omega) til r 0 (by omega) hr, by show (0 : Int) ≤ til; omega⟩]
  rfl
theorem ranks_put1 (til r : Int) (g : Nat) (rv : Value) (u : Int) : CM.put ⟨5, 0, []⟩ ⟨g, rkE til r 0, rv, CM.key (entE 97 til), u⟩ 0 = ⟨5, 1, [⟨g, rkE til r 0, rv, CM.key (entE 97 til), 1⟩]⟩ := by kernel_rfl
theorem ranks_may2 (til now r r2 : Int) (g : Nat) (rv : Value) (hn : 0 ≤ now ∧ now < 1099511627776) (hr2 : 1 ≤ r2 ∧ r2 ≤ 4) :
    CM.mayPut ⟨5, 1, [⟨g, rkE til r 0, rv, CM.key (entE 97 til), 1⟩]⟩ (rkE (now + 5) r2 7) now = !decide (now ≤ til ∧ r2 < r) := by
  have hf : CM.find [⟨g, rkE til r 0, rv, CM.key (entE 97 til), 1⟩] (CM.key (rkE (now + 5) r2 7)) = some ⟨g, rkE til r 0, rv, CM.key (entE 97 til), 1⟩ := by
    rw [CM.find_one, if_pos]
    rw [keyA_eq til]
    exact (keyA_eq (now + 5)).symm
  unfold CM.mayPut CM.refused
  rw [decide_eq_true ⟨ent_check 97 (by omega) (now + 5) r2 7 (by omega) hr2, by show now ≤ now + 5; omega⟩]
  show (true && !(match CM.find [⟨g, rkE til r 0, rv, CM.key (entE 97 til), 1⟩] (CM.key (rkE (now + 5) r2 7)) with | none => false | some x => decide (now ≤ x.e.til ∧ (rkE (now + 5) r2 7).rank < x.e.rank))) = _
  rw [hf]
  rfl
theorem ranks_put2 (til now r r2 : Int) (g g2 : Nat) (rv rv2 : Value) (u : Int) :
    CM.put ⟨5, 1, [⟨g, rkE til r 0, rv, CM.key (entE 97 til), 1⟩]⟩ ⟨g2, rkE (now + 5) r2 7, rv2, CM.key (entE 97 (now + 5)), u⟩ now = ⟨5, 2, [⟨g2, rkE (now + 5) r2 7, rv2, CM.key (entE 97 (now + 5)), 2⟩]⟩ := by
  have h := CM.put_same ⟨5, 1, [⟨g, rkE til r 0, rv, CM.key (entE 97 til), 1⟩]⟩ ⟨g, rkE til r 0, rv, CM.key (entE 97 til), 1⟩ rfl ⟨g2, rkE (now + 5) r2 7, rv2, CM.key (entE 97 (now + 5)), u⟩ (by rw [keyA_eq til]; exact (keyA_eq (now + 5)).symm) now
  show (⟨5, 1 + 1, _⟩ : C) = _
  exact congrArg (CM.C.mk 5 2) h
theorem ranks_tell (q : C) (x : It) (hq : q.h = [x]) (hk : x.key = keyA) (now : Int) (h : now ≤ x.e.til) : CM.tell q keyA now = some x := by
  unfold CM.tell
  rw [hq, CM.find_one, if_pos hk]
  simp [Option.filter, h]
set_option maxRecDepth 10000 in
set_option maxHeartbeats 2000000 in
theorem ranks_out (a0 a1 til now : Int) (w : World) (h : til < 0 ∨ 1099511627776 ≤ til ∨ now < 0 ∨ 1099511627776 ≤ now) :
    Calls Try.prog 5 #[.agg #[.int .i64 a0, .int .i64 a1], .int .i64 til, .int .i64 now] w fun e w' => e = .returned (.bool true) ∧ Touch [] w w' := by
  have H := Lib.hid h
  clear h
  go_enter Try.func5, Try.ntmps5
  go_wp2_with fail
  refine (awake_any _).mono ?_
  rintro e w1 ⟨rfl, ht1⟩
  have T : Touch [] w w1 := ((Touch.refl [] w).alloc _).trans ht1 (by simp)
  clear ht1
  have H' := H.out
  by_cases q2 : til < 0
  · go_wp2_with fail
    go_ret
    exact ⟨rfl, T⟩
  by_cases q3 : 1099511627776 ≤ til
  · go_wp2_with fail
    go_ret
    exact ⟨rfl, T⟩
  by_cases q4 : now < 0
  · go_wp2_with fail
    go_ret
    exact ⟨rfl, T⟩
  have q6 : 1099511627776 ≤ now := by omega
  clear H'
  go_wp2_with fail
  go_ret
  exact ⟨rfl, T⟩
/-- the cells of the ranks, as far as they are reckoned -/
def rkV (a0 a1 : Int) (i : Nat) : Array Value := #[.int .i64 (if 0 < i then rk a0 else 0), .int .i64 (if 1 < i then rk a1 else 0)]
theorem rk_pos {a : Int} (h : 0 ≤ a.tmod 4) : rk a = a.tmod 4 + 1 := by unfold rk; rw [if_neg (by omega)]
theorem rk_neg {a : Int} (h : a.tmod 4 < 0) : rk a = -(a.tmod 4) + 1 := by unfold rk; rw [if_pos h]
theorem rk_step {w wo W' : World} {D0 D9 B : Nat} {a0 a1 : Int} {j : Nat} {c : C} {i : Nat} {cs : Array Value} (hs : Blk wo D0 40 #[.int .i64 a0, .int .i64 a1] ∧ Blk wo D9 40 (rkV a0 a1 i) ∧ OC w wo B c ∧ Touch [] w wo) (hne : D0 ≠ D9) (hge : w.heap.size ≤ D9)
    (t : Touch [D9] wo W') (hb : Blk W' D9 40 cs) (hcs : cs = rkV a0 a1 j) : Blk W' D0 40 #[.int .i64 a0, .int .i64 a1] ∧ Blk W' D9 40 (rkV a0 a1 j) ∧ OC w W' B c ∧ Touch [] w W' :=
  ⟨t.blk hs.1 (by simpa using hne), hcs ▸ hb, hs.2.2.1.touch1 hs.2.1 (by decide) (by decide) (by decide) (by decide) t, hs.2.2.2.trans t (fun k hk => .inr (by simp at hk; rw [hk]; exact hge))⟩
set_option maxRecDepth 10000 in
set_option maxHeartbeats 2000000 in
theorem ranks_in (a0 a1 til now : Int) (w : World) (h1 : 0 ≤ til) (h2 : til < 1099511627776) (h3 : 0 ≤ now) (h4 : now < 1099511627776) :
    Calls Try.prog 5 #[.agg #[.int .i64 a0, .int .i64 a1], .int .i64 til, .int .i64 now] w fun e w' => e = .returned (.bool true) ∧ Touch [] w w' := by
  have hr : ∀ a : Int, -4 < a.tmod 4 ∧ a.tmod 4 < 4 := fun a => by
    have := Int.tmod_lt_of_pos a (show (0:Int) < 4 by decide)
    have h2 := Int.lt_tmod_of_pos a (show (0:Int) < 4 by decide)
    omega
  obtain ⟨m0, hm0⟩ : ∃ m, m = a0.tmod 4 := ⟨_, rfl⟩
  obtain ⟨m1, hm1⟩ : ∃ m, m = a1.tmod 4 := ⟨_, rfl⟩
  have r0 := hr a0
  have r1 := hr a1
  rw [← hm0] at r0
  rw [← hm1] at r1
  have HR := Lib.hid (And.intro r0 (And.intro r1 (And.intro hm0 hm1)))
  have HT := Lib.hid (And.intro (And.intro h1 h2) (And.intro h3 h4))
  have HB0 := Lib.hid (Blk.new w 40 #[.int .i64 a0, .int .i64 a1])
  clear r0 r1 hr hm0 hm1
  go_enter Try.func5, Try.ntmps5
  go_wp2_with fail
  refine (awake_any _).mono ?_
  rintro e w1 ⟨rfl, ht1⟩
  have HT1 := Lib.hid (((Touch.refl [] w).alloc (.cells #[.int .i64 a0, .int .i64 a1] 40)).trans ht1 (by simp))
  have HB1 := Lib.hid (ht1.blk HB0.out (by simp))
  clear ht1
  go_wp2_with fail
  refine (onew w w1 HT1.out 5).mono ?_
  rintro e w2 ⟨B, rfl, O2, T2⟩
  have HO2 := Lib.hid (show OC w w2 B ⟨5, 0, []⟩ from O2)
  have HT2 := Lib.hid (HT1.out.trans T2 (by simp))
  have HB2 := Lib.hid (T2.blk HB1.out (by simp))
  clear O2 T2 h1 h2 h3 h4
  go_wp2_with fail
  have HBz := Lib.hid (Blk.new w2 40 #[.int .i64 0, .int .i64 0])
  have hne : w.heap.size ≠ w2.heap.size := by have := HB2.out.lt; omega
  have HNE := Lib.hid hne
  clear hne
  go_loopw [10] (fun u wr => ∃ i : Nat, u = .int .i64 (i : Int) ∧ i ≤ 2 ∧ Blk wr w.heap.size 40 #[.int .i64 a0, .int .i64 a1] ∧ Blk wr w2.heap.size 40 (rkV a0 a1 i) ∧ OC w wr B ⟨5, 0, []⟩ ∧ Touch [] w wr) (fun u _ => 2 - (intOf u).toNat)
  case atStart => exact ⟨0, rfl, by omega, HB2.out.alloc _, HBz.out, HO2.out.quiet ((Touch.refl [] w2).alloc _), HT2.out.alloc _⟩
  case round =>
    obtain ⟨i, rfl, hi, b0, b1, O, T⟩ := hrel
    obtain ⟨wo, rfl⟩ : ∃ wo, wo = wr := ⟨_, rfl⟩
    have HS := Lib.hid (And.intro b0 (And.intro b1 (And.intro O T)))
    clear O T
    match i, hi with
    | 0, _ =>
      have x0 : wo.cell? ⟨w.heap.size, 0, none⟩ = some (.int .i64 a0) := b0.cell 0
      have y0 : wo.cell? ⟨w2.heap.size, 0, none⟩ = some (.int .i64 0) := b1.cell 0
      have fz : wo.frozen? ⟨w2.heap.size, 0, none⟩ = false := b1.frozen 0
      clear b0 b1
      have hm := HR.out.2.2.1
      have hb := HR.out.1
      by_cases hneg : a0.tmod 4 < 0
      · have HK := Lib.hid (rk_neg hneg)
        go_wp2_with fail
        refine ⟨⟨1, rfl, by omega, rk_step (i := 0) HS.out HNE.out HT2.out.size ((((Touch.refl _ _).setCell _ _ (.inl (by simp))).setCell _ _ (.inl (by simp))).setCell _ _ (.inl (by simp))) (((HS.out.2.1.set_ 0 _).set_ 0 _).set_ 0 _) ?_⟩, by decide⟩
        simp only [rkV, HK.out]
        rfl
      · have HK := Lib.hid (rk_pos (a := a0) (by omega))
        have hpos : 0 ≤ a0.tmod 4 := by omega
        go_wp2_with fail
        refine ⟨⟨1, rfl, by omega, rk_step (i := 0) HS.out HNE.out HT2.out.size (((Touch.refl _ _).setCell _ _ (.inl (by simp))).setCell _ _ (.inl (by simp))) ((HS.out.2.1.set_ 0 _).set_ 0 _) ?_⟩, by decide⟩
        simp only [rkV, HK.out]
        rfl
    | 1, _ =>
      have x0 : wo.cell? ⟨w.heap.size, 1, none⟩ = some (.int .i64 a1) := b0.cell 1
      have y0 : wo.cell? ⟨w2.heap.size, 1, none⟩ = some (.int .i64 0) := b1.cell 1
      have fz : wo.frozen? ⟨w2.heap.size, 1, none⟩ = false := b1.frozen 1
      clear b0 b1
      have hm := HR.out.2.2.2
      have hb := HR.out.2.1
      by_cases hneg : a1.tmod 4 < 0
      · have HK := Lib.hid (rk_neg hneg)
        go_wp2_with fail
        refine ⟨⟨2, rfl, by omega, rk_step (i := 1) HS.out HNE.out HT2.out.size ((((Touch.refl _ _).setCell _ _ (.inl (by simp))).setCell _ _ (.inl (by simp))).setCell _ _ (.inl (by simp))) (((HS.out.2.1.set_ 1 _).set_ 1 _).set_ 1 _) ?_⟩, by decide⟩
        simp only [rkV, HK.out]
        rfl
      · have HK := Lib.hid (rk_pos (a := a1) (by omega))
        have hpos : 0 ≤ a1.tmod 4 := by omega
        go_wp2_with fail
        refine ⟨⟨2, rfl, by omega, rk_step (i := 1) HS.out HNE.out HT2.out.size (((Touch.refl _ _).setCell _ _ (.inl (by simp))).setCell _ _ (.inl (by simp))) ((HS.out.2.1.set_ 1 _).set_ 1 _) ?_⟩, by decide⟩
        simp only [rkV, HK.out]
        rfl
    | 2, _ =>
      clear b0 b1
      obtain ⟨p, hp⟩ : ∃ p, p = rk a0 := ⟨_, rfl⟩
      obtain ⟨q, hq⟩ : ∃ q, q = rk a1 := ⟨_, rfl⟩
      have HPQ := Lib.hid (show (1 ≤ p ∧ p ≤ 4) ∧ (1 ≤ q ∧ q ≤ 4) by rw [hp, hq]; exact ⟨rk_range a0, rk_range a1⟩)
      have HB9 := Lib.hid (show Blk wo w2.heap.size 40 #[.int .i64 p, .int .i64 q] by rw [hp, hq]; exact HS.out.2.1)
      clear hp hq
      go_wp2_with fail
      refine (entry_any _ 97 (by omega) til).mono ?_
      rintro e w3 ⟨g3, rfl, _, b3, T3⟩
      have HE3 := Lib.hid (Blk.new w3 25 zeroE)
      obtain ⟨V3, hV3⟩ : ∃ V, V = entV (entE 97 til) (.slice (some ⟨g3, 0, none⟩) 1 1) := ⟨_, rfl⟩
      obtain ⟨w4, hw4⟩ : ∃ W, W = (w3.alloc (.cells zeroE 25)).setRow w3.heap.size (entV (entE 97 til) (.slice (some ⟨g3, 0, none⟩) 1 1)) := ⟨_, rfl⟩
      have t4 : Touch [] wo w4 := by rw [hw4]; exact T3.trans (laid_t _ _) (by simp)
      have t34 : Touch [] w3 w4 := by rw [hw4]; exact laid_t _ _
      have hD4 : Blk w4 w3.heap.size 25 (entV (entE 97 til) (.slice (some ⟨g3, 0, none⟩) 1 1)) := by rw [hw4]; exact (Blk.new w3 25 zeroE).row _
      have hB94 := t4.blk HB9.out (by simp)
      have c9 : w4.cell? ⟨w2.heap.size, 0, none⟩ = some (.int .i64 p) := hB94.cell 0
      have f6 : w4.frozen? ⟨w3.heap.size, 6, none⟩ = false := hD4.frozen 6
      have c6 : w4.cell? ⟨w3.heap.size, 6, none⟩ = some (.int .i64 3) := hD4.cell 6
      have hD5 : Blk (w4.setCell ⟨w3.heap.size, 6, none⟩ (.int .i64 p)) w3.heap.size 25 (entV (rkE til p 0) (.slice (some ⟨g3, 0, none⟩) 1 1)) := hD4.set_ 6 (.int .i64 p)
      have t5 : Touch [] w3 (w4.setCell ⟨w3.heap.size, 6, none⟩ (.int .i64 p)) := t34.setCell ⟨w3.heap.size, 6, none⟩ _ (.inr (Nat.le_refl _))
      obtain ⟨w5, hw5⟩ : ∃ W, W = w4.setCell ⟨w3.heap.size, 6, none⟩ (.int .i64 p) := ⟨_, rfl⟩
      rw [← hw5] at hD5 t5
      have HO5 := Lib.hid ((HS.out.2.2.1.quiet T3).quiet t5)
      have HT5 := Lib.hid ((HS.out.2.2.2.trans T3 (by simp)).trans t5 (by simp))
      have HD5 := Lib.hid (And.intro hD5 (And.intro (t5.blk b3 (by simp)) ((T3.trans t5 (by simp)).blk HB9.out (by simp))))
      have HW4 := Lib.hid hw4
      have HW5 := Lib.hid hw5
      have hw : wrap64 (now + 5) = now + 5 := IntWalk.wrap64_in _ (by have := HT.out; omega)
      clear b3 T3 t4 t34 hD4 hB94 hD5 t5 hw4 hw5 hV3
      go_wp2_with (refine wpList_store_rowTo rfl 25 (.tmp 11) (.tmp 63) rfl rfl w3.heap.size (entV (entE 97 til) (.slice (some ⟨g3, 0, none⟩) 1 1)) rfl rfl 25 zeroE HE3.out (by kernel_rfl) rfl (entV_cells _ _ _ _) ?_; rw [← HW4.out])
      rw [← HW5.out]
      refine (entry_any _ 97 (by omega) (now + 5)).mono ?_
      rintro e w6 ⟨g6, rfl, _, b6, T6⟩
      have HE6 := Lib.hid (Blk.new w6 25 zeroE)
      obtain ⟨w7, hw7⟩ : ∃ W, W = (w6.alloc (.cells zeroE 25)).setRow w6.heap.size (entV (entE 97 (now + 5)) (.slice (some ⟨g6, 0, none⟩) 1 1)) := ⟨_, rfl⟩
      have t7 : Touch [] w5 w7 := by rw [hw7]; exact T6.trans (laid_t _ _) (by simp)
      have t67 : Touch [] w6 w7 := by rw [hw7]; exact laid_t _ _
      have hD7 : Blk w7 w6.heap.size 25 (entV (entE 97 (now + 5)) (.slice (some ⟨g6, 0, none⟩) 1 1)) := by rw [hw7]; exact (Blk.new w6 25 zeroE).row _
      have hB97 := t7.blk HD5.out.2.2 (by simp)
      have c9 : w7.cell? ⟨w2.heap.size, 1, none⟩ = some (.int .i64 q) := hB97.cell 1
      have f6 : w7.frozen? ⟨w6.heap.size, 6, none⟩ = false := hD7.frozen 6
      have c6 : w7.cell? ⟨w6.heap.size, 6, none⟩ = some (.int .i64 3) := hD7.cell 6
      have hD8 := hD7.set_ 6 (.int .i64 q)
      have f8 : w7.frozen? ⟨w6.heap.size, 8, none⟩ = false := hD7.frozen 8
      have f8' : (w7.setCell ⟨w6.heap.size, 6, none⟩ (.int .i64 q)).frozen? ⟨w6.heap.size, 8, none⟩ = false := hD8.frozen 8
      have c8 : (w7.setCell ⟨w6.heap.size, 6, none⟩ (.int .i64 q)).cell? ⟨w6.heap.size, 8, none⟩ = some (.int .i64 0) := hD8.cell 8
      have hD9 : Blk ((w7.setCell ⟨w6.heap.size, 6, none⟩ (.int .i64 q)).setCell ⟨w6.heap.size, 8, none⟩ (.int .i64 7)) w6.heap.size 25 (entV (rkE (now + 5) q 7) (.slice (some ⟨g6, 0, none⟩) 1 1)) := hD8.set_ 8 (.int .i64 7)
      have t9 : Touch [] w6 ((w7.setCell ⟨w6.heap.size, 6, none⟩ (.int .i64 q)).setCell ⟨w6.heap.size, 8, none⟩ (.int .i64 7)) := (t67.setCell ⟨w6.heap.size, 6, none⟩ _ (.inr (Nat.le_refl _))).setCell ⟨w6.heap.size, 8, none⟩ _ (.inr (Nat.le_refl _))
      obtain ⟨w9, hw9⟩ : ∃ W, W = (w7.setCell ⟨w6.heap.size, 6, none⟩ (.int .i64 q)).setCell ⟨w6.heap.size, 8, none⟩ (.int .i64 7) := ⟨_, rfl⟩
      rw [← hw9] at hD9 t9
      have t59 := T6.trans t9 (by simp)
      have HO9 := Lib.hid (HO5.out.quiet t59)
      have HT9 := Lib.hid (HT5.out.trans t59 (by simp))
      have HD9 := Lib.hid (And.intro hD9 (And.intro (t9.blk b6 (by simp)) (And.intro (t59.blk HD5.out.1 (by simp)) (And.intro (t59.blk HD5.out.2.1 (by simp)) (t59.blk HD5.out.2.2 (by simp))))))
      have HW7 := Lib.hid hw7
      have HW9 := Lib.hid hw9
      clear b6 T6 t7 t67 hD7 hB97 hD8 hD9 t9 t59 hw7 hw9
      go_upto_region 20 with (refine wpList_store_rowTo rfl 25 (.tmp 12) (.tmp 69) rfl rfl w6.heap.size (entV (entE 97 (now + 5)) (.slice (some ⟨g6, 0, none⟩) 1 1)) rfl rfl 25 zeroE HE6.out (by kernel_rfl) rfl (entV_cells _ _ _ _) ?_; rw [← HW7.out])
      rw [← HW9.out]
      clear c9 f6 c6 f8 f8' c8 hw
      go_wp2_with (refine wpList_load_row rfl 25 (.tmp 11) rfl w3.heap.size rfl 25 (entV (rkE til p 0) (.slice (some ⟨g3, 0, none⟩) 1 1)) (0, 0) _ HD9.out.2.2.1 Try.underlying25 rfl (by kernel_rfl) ?_)
      refine (oputE w w9 B _ HO9.out 97 (by omega) til p 0 g3 HD9.out.2.2.2.1 0 (by simp)).mono ?_
      rintro e wa ⟨Sa, ha, ⟨hm, _⟩ | ⟨hm, gx, rv, u, _, Oa⟩⟩
      · exact no_tf hm (ranks_may1 til p HT.out.1 HPQ.out.1)
      have HTa := Lib.hid (Sa.touch HT9.out)
      have HOa := Lib.hid (show OC w wa B ⟨5, 1, [⟨gx, rkE til p 0, rv, CM.key (entE 97 til), 1⟩]⟩ from by rw [← ranks_put1 til p gx rv u]; exact Oa)
      have HDa := Lib.hid (And.intro (Sa.blk HD9.out.1 (by decide) (by decide) (by decide)) (And.intro (Sa.blk HD9.out.2.1 (by decide) (by decide) (by decide)) (Sa.blk HD9.out.2.2.2.2 (by decide) (by decide) (by decide))))
      rw [hm] at ha
      subst ha
      clear Sa Oa hm
      go_wp2_with (refine wpList_load_row rfl 25 (.tmp 12) rfl w6.heap.size rfl 25 (entV (rkE (now + 5) q 7) (.slice (some ⟨g6, 0, none⟩) 1 1)) (0, 0) _ HDa.out.1 Try.underlying25 rfl (by kernel_rfl) ?_)
      have hmay := ranks_may2 til now p q gx rv HT.out.2 HPQ.out.2
      refine (oputE w wa B _ HOa.out 97 (by omega) (now + 5) q 7 g6 HDa.out.2.1 now (by simp)).mono ?_
      rintro e wb ⟨Sb, hb, Hb⟩
      have HTb := Lib.hid (Sb.touch HTa.out)
      have HDb := Lib.hid (Sb.blk HDa.out.2.2 (by decide) (by decide) (by decide))
      obtain ⟨tk, htk⟩ : ∃ tk : Bool, tk = !decide (now ≤ til ∧ q < p) := ⟨_, rfl⟩
      have HTK := Lib.hid htk
      rw [show CM.mayPut ⟨5, 1, [⟨gx, rkE til p 0, rv, CM.key (entE 97 til), 1⟩]⟩ { entE 97 (now + 5) with rank := q, src := 7 } now = tk from by rw [htk]; exact hmay] at hb Hb
      subst hb
      have HFIN := Lib.hid (show ∃ (c3 : C) (x : It), OC w wb B c3 ∧ CM.tell c3 keyA now = some x ∧ (x.e.src == 7) = tk ∧ c3.uses ≤ 5 ∧ (CM.used c3 x.g).h.length = 1 from by
        rcases Hb with ⟨h0, O⟩ | ⟨h1, g2, rv2, u2, _, O⟩
        · have hh : now ≤ til ∧ q < p := by rw [h0] at htk; simpa using htk
          refine ⟨_, ⟨gx, rkE til p 0, rv, CM.key (entE 97 til), 1⟩, O, ranks_tell _ _ rfl (keyA_eq til) now hh.1, by rw [h0]; rfl, by simp, by simp [CM.used]⟩
        · rw [show CM.put ⟨5, 1, [⟨gx, rkE til p 0, rv, CM.key (entE 97 til), 1⟩]⟩ ⟨g2, { entE 97 (now + 5) with rank := q, src := 7 }, rv2, CM.key (entE 97 (now + 5)), u2⟩ now = _ from ranks_put2 til now p q gx g2 rv rv2 u2] at O
          refine ⟨_, ⟨g2, rkE (now + 5) q 7, rv2, CM.key (entE 97 (now + 5)), 2⟩, O, ranks_tell _ _ rfl (keyA_eq (now + 5)) now (by show now ≤ now + 5; omega), by rw [h1]; rfl, by simp, by simp [CM.used]⟩)
      clear Sb Hb htk hmay
      obtain ⟨c3, x, Ob, htell, hsrc, huse, hln⟩ := HFIN.out
      have HX := Lib.hid (And.intro Ob (And.intro htell (And.intro hsrc (And.intro huse hln))))
      clear Ob htell hsrc huse hln
      go_wp2_with fail
      refine (oget w wb B c3 HX.out.1 ⟨#[1, 97, 0]⟩ (by decide) 1 1 now (by have := HX.out.2.2.2.1; omega)).mono ?_
      rintro e wc ⟨Sc, Hc⟩
      rw [show CM.tell c3 (ofBs (CM.keyB 0 (bs ⟨#[1, 97, 0]⟩) ((1 : Nat) : Int) ((1 : Nat) : Int))) now = some x from HX.out.2.1] at Hc
      rcases Hc with ⟨hc, _⟩ | ⟨x7, a7, cp7, h7, rfl, _, O7⟩
      · cases hc
      obtain rfl := Option.some.inj h7
      have HEc := Lib.hid (Blk.new wc 25 zeroE)
      obtain ⟨wd, hwd⟩ : ∃ W, W = (wc.alloc (.cells zeroE 25)).setRow wc.heap.size (entV x.e (.slice a7 x.e.recs.length cp7)) := ⟨_, rfl⟩
      have hDd : Blk wd wc.heap.size 25 (entV x.e (.slice a7 x.e.recs.length cp7)) := by rw [hwd]; exact (Blk.new wc 25 zeroE).row _
      have HOd := Lib.hid (show OC w wd B (CM.used c3 x.g) by rw [hwd]; exact O7.laid _)
      have HTd := Lib.hid (show Touch [] w wd by rw [hwd]; exact (Sc.touch HTb.out).trans (laid_t _ _) (by simp))
      have hb9 : Blk wd w2.heap.size 40 #[.int .i64 p, .int .i64 q] := by rw [hwd]; exact (laid_t _ _).blk (Sc.blk HDb.out (by decide) (by decide) (by decide)) (by simp)
      have y0 : wd.cell? ⟨w2.heap.size, 0, none⟩ = some (.int .i64 p) := hb9.cell 0
      have y1 : wd.cell? ⟨w2.heap.size, 1, none⟩ = some (.int .i64 q) := hb9.cell 1
      have z8 : wd.cell? ⟨wc.heap.size, 8, none⟩ = some (.int .i64 x.e.src) := hDd.cell 8
      have HWd := Lib.hid hwd
      have hsrc := HX.out.2.2.1
      obtain ⟨sr, hsr⟩ : ∃ s, s = x.e.src := ⟨_, rfl⟩
      rw [← hsr] at z8 hsrc
      clear Sc O7 h7 hwd hDd hb9 hsr
      have hln := HX.out.2.2.2.2
      obtain ⟨ln, hlnn⟩ : ∃ n, n = (CM.used c3 x.g).h.length := ⟨_, rfl⟩
      have HLEN := Lib.hid (show Calls Try.prog 20 #[.pointer (some ⟨B, 0, none⟩)] wd fun e w' => e = .returned (.int .i64 1) ∧ w' = wd from by
        have := olen w wd B _ HOd.out
        rw [hln] at this
        exact this)
      clear hln hlnn
      cases tk with
      | true =>
        have hq1 : now ≤ til → p ≤ q := fun h => by have := HTK.out; simp at this; omega
        by_cases hc1 : til < now
        · clear hq1
          go_wp2_with (refine wpList_store_rowTo rfl 25 (.tmp 15) (.tmp 85) rfl rfl wc.heap.size (entV x.e (.slice a7 x.e.recs.length cp7)) rfl rfl 25 zeroE HEc.out (by kernel_rfl) rfl (entV_cells _ _ _ _) ?_; rw [← HWd.out])
          refine HLEN.out.mono ?_
          rintro e we ⟨rfl, rfl⟩
          go_wp2_with fail
          go_ret
          exact ⟨rfl, HTd.out⟩
        · have hc2 : now ≤ til := by omega
          have hc3 : p ≤ q := hq1 hc2
          have hc4 : decide (til < now) = false := decide_eq_false hc1
          clear hq1
          go_wp2_with (refine wpList_store_rowTo rfl 25 (.tmp 15) (.tmp 85) rfl rfl wc.heap.size (entV x.e (.slice a7 x.e.recs.length cp7)) rfl rfl 25 zeroE HEc.out (by kernel_rfl) rfl (entV_cells _ _ _ _) ?_; rw [← HWd.out])
          refine HLEN.out.mono ?_
          rintro e we ⟨rfl, rfl⟩
          go_wp2_with fail
          go_ret
          exact ⟨rfl, HTd.out⟩
      | false =>
        have hq1 : now ≤ til ∧ q < p := by have := HTK.out; simpa using this
        obtain ⟨hc2, hc3⟩ := hq1
        have hc4 : decide (til < now) = false := decide_eq_false (by omega)
        have hc5 : decide (p ≤ q) = false := decide_eq_false (by omega)
        go_wp2_with (refine wpList_store_rowTo rfl 25 (.tmp 15) (.tmp 85) rfl rfl wc.heap.size (entV x.e (.slice a7 x.e.recs.length cp7)) rfl rfl 25 zeroE HEc.out (by kernel_rfl) rfl (entV_cells _ _ _ _) ?_; rw [← HWd.out])
        refine HLEN.out.mono ?_
        rintro e we ⟨rfl, rfl⟩
        go_wp2_with fail
        go_ret
        exact ⟨rfl, HTd.out⟩
set_option maxRecDepth 100000 in
theorem ranks_walk (cs : Array Value) (til now : Int) (w : World) (h : Rd w 40 cs.toList) (_ : (Lit.int .i64 til).wf = true) (_ : (Lit.int .i64 now).wf = true) :
    Calls Try.prog 5 #[.agg cs, .int .i64 til, .int .i64 now] w fun e w' => e = .returned (.bool true) ∧ Touch [] w w' := by
  obtain ⟨t0, t1, rfl⟩ : ∃ t0 t1, cs = #[.int .i64 t0, .int .i64 t1] := by
    obtain ⟨hl, he⟩ := h.array Try.underlying40
    have hl2 : cs.toList.length = 2 := hl.trans (by kernel_rfl)
    have c1 : Try.prog.cellsOf 3 = 1 := by kernel_rfl
    obtain ⟨l⟩ := cs
    match l, hl2 with
    | [x, y], _ =>
      have h0 := he 0 (by omega)
      have h1 := he 1 (by omega)
      rw [c1] at h0 h1
      obtain ⟨a, ha, _⟩ := Rd.int Try.underlying3 h0
      obtain ⟨b, hb, _⟩ := Rd.int Try.underlying3 h1
      simp at ha hb
      exact ⟨a, b, by rw [ha, hb]⟩
  by_cases hout : til < 0 ∨ 1099511627776 ≤ til ∨ now < 0 ∨ 1099511627776 ≤ now
  · exact ranks_out t0 t1 til now w hout
  · exact ranks_in t0 t1 til now w (by omega) (by omega) (by omega) (by omega)
end Go.Proofs.Ytibbfihnhlgkeaa

/- BeatLasts's walk, over awake's. -/
import Derived.Test.YtknkomnhfkbmiaaBeatNil
import Derived.Deep.DeepCutAuto
import Derived.Test.YtknkomnhfkbmiaaArgs
import Derived.Test.YtknkomnhfkbmiaaBeatAwake
namespace Go.Proofs.Ytknkomnhfkbmiaa
open Go.RowKit Go.Maps

set_option maxRecDepth 100000 in
set_option maxHeartbeats 1000000 in
theorem beatLasts_out (haw : AwakeOk 7) (nd L t0 t1 : Int) (hw0 : (Lit.int .i64 nd).wf = true) (w : World)
    (h : L < 0 ∨ 1099511627776 ≤ L ∨ t0 < 0 ∨ 1099511627776 ≤ t0 ∨ t1 < 0 ∨ 1099511627776 ≤ t1) :
    Calls Try.prog 4 #[.int .i64 nd, .int .i64 L, .agg #[.int .i64 t0, .int .i64 t1]] w fun e w' => e = .returned (.bool true) ∧ Touch [] w w' := by
  have HA := Lib.hid haw
  have H := Lib.hid h
  clear haw h
  go_enter Try.func4, Try.ntmps4
  go_wp2_with fail
  refine (HA.out _).mono ?_
  rintro e w1 ⟨rfl, ht1⟩
  have c0 : w1.cell? ⟨w.heap.size, 0, none⟩ = some (.int .i64 t0) := (ht1.blk (Blk.new w _ _) (by simp)).cell 0
  have c1 : w1.cell? ⟨w.heap.size, 1, none⟩ = some (.int .i64 t1) := (ht1.blk (Blk.new w _ _) (by simp)).cell 1
  have T : Touch [] w w1 := ((Touch.refl [] w).alloc _).trans ht1 (by simp)
  go_upto_if 19 with (fail)
  go_cut [8] (fun s8 wx => (∃ n : Int, s8 = .int .i64 n) ∧ wx = w1)
  case first =>
    go_wp2
    all_goals
      go_meet
      exact ⟨⟨_, rfl⟩, rfl⟩
  case rest =>
    obtain ⟨⟨n, rfl⟩, rfl⟩ := hcut
    have H' := H.out
    by_cases q1 : L < 0
    · go_wp2_with fail
      go_ret
      exact ⟨rfl, T⟩
    by_cases q2 : 1099511627776 ≤ L
    · go_wp2_with fail
      go_ret
      exact ⟨rfl, T⟩
    by_cases q3 : t0 < 0
    · go_wp2_with fail
      go_ret
      exact ⟨rfl, T⟩
    by_cases q4 : 1099511627776 ≤ t0
    · go_wp2_with fail
      go_ret
      exact ⟨rfl, T⟩
    by_cases q5 : t1 < 0
    · go_wp2_with fail
      go_ret
      exact ⟨rfl, T⟩
    have q6 : 1099511627776 ≤ t1 := by omega
    clear H'
    go_wp2_with fail
    go_ret
    exact ⟨rfl, T⟩

theorem seenV_new (f : Int → Option Int) (k t : Int) (hf : f k = none) (h0 : 0 ≤ t) (h1 : t ≤ 1125899906842624) : seenV f k t = t := by
  unfold seenV; rw [hf, clk_in t h0 h1]; simp; omega
theorem seenV_up (f : Int → Option Int) (k t v : Int) (hf : f k = some v) (hv : v ≤ t) (h0 : 0 ≤ t) (h1 : t ≤ 1125899906842624) : seenV f k t = t := by
  unfold seenV; rw [hf, clk_in t h0 h1]; simp; omega
theorem aliveB_some (L : Int) (f : Int → Option Int) (k x v : Int) (hf : f k = some v) (h0 : 0 ≤ x) (h1 : x ≤ 1125899906842624) : aliveB L f k x = decide (x - v ≤ L) := by
  unfold aliveB; rw [hf, clk_in x h0 h1]
theorem aliveB_none (L : Int) (f : Int → Option Int) (k x : Int) (hf : f k = none) : aliveB L f k x = false := by
  unfold aliveB; rw [hf]
theorem upd_same (f : Int → Option Int) (k : Int) (v : Option Int) : upd f k v k = v := by simp [upd]
theorem upd_other (f : Int → Option Int) (k j : Int) (v : Option Int) (h : j ≠ k) : upd f k v j = f j := by simp [upd, h]

set_option maxRecDepth 100000 in
set_option maxHeartbeats 2000000 in
theorem beatLasts_in (haw : AwakeOk 7) (nd L t0 t1 : Int) (hw0 : (Lit.int .i64 nd).wf = true) (w : World)
    (hL0 : 0 ≤ L) (hL1 : L < 1099511627776) (ht0 : 0 ≤ t0) (ht1 : t0 < 1099511627776) (hu0 : 0 ≤ t1) (hu1 : t1 < 1099511627776) :
    Calls Try.prog 4 #[.int .i64 nd, .int .i64 L, .agg #[.int .i64 t0, .int .i64 t1]] w fun e w' => e = .returned (.bool true) ∧ Touch [] w w' := by
  have HA := Lib.hid haw
  clear haw
  have hr : -62 ≤ nd.tmod 63 ∧ nd.tmod 63 ≤ 62 := by
    have := Int.tmod_lt_of_pos nd (show (0:Int) < 63 by decide)
    have h2 := Int.lt_tmod_of_pos nd (show (0:Int) < 63 by decide)
    omega
  obtain ⟨r, hre⟩ : ∃ r, r = nd.tmod 63 := ⟨_, rfl⟩
  rw [← hre] at hr
  obtain ⟨hr0, hr1⟩ := hr
  go_enter Try.func4, Try.ntmps4
  go_wp2_with fail
  refine (HA.out _).mono ?_
  rintro e w1 ⟨rfl, htw1⟩
  have c0 : w1.cell? ⟨w.heap.size, 0, none⟩ = some (.int .i64 t0) := (htw1.blk (Blk.new w _ _) (by simp)).cell 0
  have c1 : w1.cell? ⟨w.heap.size, 1, none⟩ = some (.int .i64 t1) := (htw1.blk (Blk.new w _ _) (by simp)).cell 1
  have T1 : Touch [] w w1 := ((Touch.refl [] w).alloc _).trans htw1 (by simp)
  have hbw : w.heap.size < w1.heap.size := Nat.lt_of_lt_of_le (by simp) htw1.size
  go_upto_if 19 with (fail)
  go_cut [8] (fun s8 wx => (∃ n : Int, s8 = .int .i64 n ∧ 0 ≤ n ∧ n ≤ 62) ∧ wx = w1)
  case first =>
    by_cases hneg : r < 0
    · go_wp2
      go_meet
      exact ⟨⟨_, rfl, by omega, by omega⟩, rfl⟩
    · go_wp2
      go_meet
      exact ⟨⟨_, rfl, by omega, by omega⟩, rfl⟩
  case rest =>
    obtain ⟨⟨n, rfl, hn0, hn1⟩, rfl⟩ := hcut
    clear hre
    -- what each call comes to
    obtain ⟨f1, hf1⟩ : ∃ f, f = upd f0 n (some (seenV f0 n t0)) := ⟨_, rfl⟩
    obtain ⟨f2, hf2⟩ : ∃ f, f = upd f1 (n + 1) (some (seenV f1 (n + 1) t1)) := ⟨_, rfl⟩
    obtain ⟨f3, hf3⟩ : ∃ f, f = upd f2 n (some (seenV f2 n (t0 + t1))) := ⟨_, rfl⟩
    obtain ⟨f4, hf4⟩ : ∃ f, f = upd f3 n none := ⟨_, rfl⟩
    have e1 : f1 n = some t0 := by rw [hf1, upd_same, seenV_new f0 n t0 rfl ht0 (by omega)]
    have e2 : f2 n = some t0 := by rw [hf2, upd_other _ _ _ _ (by omega), e1]
    have e2' : f2 (n + 1) = some t1 := by rw [hf2, upd_same, seenV_new f1 (n + 1) t1 (by rw [hf1, upd_other _ _ _ _ (by omega)]; rfl) hu0 (by omega)]
    have e3 : f3 n = some (t0 + t1) := by rw [hf3, upd_same, seenV_up f2 n (t0 + t1) t0 e2 (by omega) (by omega) (by omega)]
    have e3' : f3 (n + 1) = some t1 := by rw [hf3, upd_other _ _ _ _ (by omega), e2']
    have e4 : f4 n = none := by rw [hf4, upd_same]
    have e4' : f4 (n + 1) = some t1 := by rw [hf4, upd_other _ _ _ _ (by omega), e3']
    have a1 : aliveB L f2 n t0 = true := by rw [aliveB_some L f2 n t0 t0 e2 (by omega) (by omega)]; simp; omega
    have a2 : aliveB L f2 n (t0 + L) = true := by rw [aliveB_some L f2 n _ t0 e2 (by omega) (by omega)]; simp; omega
    have a3 : aliveB L f2 n (t0 + L + 1) = false := by rw [aliveB_some L f2 n _ t0 e2 (by omega) (by omega)]; simp; omega
    have a4 : aliveB L f3 n (t0 + t1 + L) = true := by rw [aliveB_some L f3 n _ (t0 + t1) e3 (by omega) (by omega)]; simp; omega
    have a5 : aliveB L f3 n (t0 + t1 + L + 1) = false := by rw [aliveB_some L f3 n _ (t0 + t1) e3 (by omega) (by omega)]; simp; omega
    have a6 : aliveB L f4 n (t0 + t1) = false := aliveB_none L f4 n _ e4
    have a7 : aliveB L f4 (n + 1) t1 = true := by rw [aliveB_some L f4 (n + 1) t1 t1 e4' (by omega) (by omega)]; simp; omega
    have i3 : (f3 n).isSome = true := by rw [e3]; rfl
    have A1 := Lib.hid a1
    have A2 := Lib.hid a2
    have A3 := Lib.hid a3
    have A4 := Lib.hid a4
    have A5 := Lib.hid a5
    have A6 := Lib.hid a6
    have A7 := Lib.hid a7
    have I3 := Lib.hid i3
    have F1 := Lib.hid hf1
    have F2 := Lib.hid hf2
    have F3 := Lib.hid hf3
    have F4 := Lib.hid hf4
    clear a1 a2 a3 a4 a5 a6 a7 i3 hf1 hf2 hf3 hf4 e1 e2 e2' e3 e3' e4 e4'
    have wn : (Lit.int .i64 n).wf = true := wf64 (by omega) (by omega)
    have wn' : (Lit.int .i64 (n + 1)).wf = true := wf64 (by omega) (by omega)
    have hb0 := beat_new wc L hL0 (by omega)
    go_wp2_with fail
    refine (new_any _ _).mono ?_
    rintro e w2 ⟨rfl, hw2⟩
    rw [clk_in L hL0 (by omega)] at hw2
    rw [← hw2] at hb0
    have T2 : Touch [] w w2 := by rw [hw2]; exact T1.alloc _
    have hB : w.heap.size ≤ wc.heap.size := T1.size
    have k0 : w2.cell? ⟨w.heap.size, 0, none⟩ = some (.int .i64 t0) := by rw [hw2]; exact (((htw1.blk (Blk.new w _ _) (by simp)).alloc _)).cell 0
    have k1 : w2.cell? ⟨w.heap.size, 1, none⟩ = some (.int .i64 t1) := by rw [hw2]; exact (((htw1.blk (Blk.new w _ _) (by simp)).alloc _)).cell 1
    have hbx : Blk w2 w.heap.size 37 #[.int .i64 t0, .int .i64 t1] := by rw [hw2]; exact (htw1.blk (Blk.new w _ _) (by simp)).alloc _
    clear hw2 c0 c1
    go_wp2_with fail
    refine (seen_any _ _ none L 0 f0 hb0 (by omega) n t0 (by omega) (by omega)).mono ?_
    rintro e w3 ⟨rfl, m3, hb3, t3, hm3⟩
    rw [← F1.out] at hb3
    have hm3' : ∀ m, m3 = some m → wc.heap.size < m := fun m h => by rcases hm3 m h with h | h; cases h; exact Nat.lt_of_lt_of_le hb0.blk.lt h
    have T3 : Touch [] w w3 := T2.trans t3 (t3.beat hB (by simp))
    have hbx3 := t3.blk hbx (by simp; omega)
    have c1 := hbx3.cell 1
    have c0 := hbx3.cell 0
    clear k0 k1 hm3
    go_wp2_with fail
    refine (seen_any _ _ m3 L 1 f1 hb3 (by omega) (n + 1) t1 (by omega) (by omega)).mono ?_
    rintro e w4 ⟨rfl, m4, hb4, t4, hm4⟩
    rw [← F2.out] at hb4
    have hm4' : ∀ m, m4 = some m → wc.heap.size < m := fun m h => by
      rcases hm4 m h with h | h
      · exact hm3' m h
      · exact Nat.lt_of_lt_of_le (Nat.lt_of_lt_of_le hb0.blk.lt t3.size) h
    have T4 : Touch [] w w4 := T3.trans t4 (t4.beat hB (fun m h => by have := hm3' m h; omega))
    have hbx4 := t4.blk hbx3 (by simp; exact ⟨by omega, fun h => by have := hm3' _ h; omega⟩)
    clear c0 c1 hm4
    have c1 := hbx4.cell 1
    have c0 := hbx4.cell 0
    have r4 := fun k v (hk : f2 k = some v) => (hb4.map.rng k v hk).2.2
    have R4 := Lib.hid r4
    clear r4
    go_wp2_with fail
    refine (alive_any _ _ _ _ _ _ hb4 R4.out n t0 wn).mono ?_
    rw [A1.out]
    rintro e w5 ⟨rfl, j5, rfl⟩
    go_wp2_with fail
    refine (alive_any _ _ _ _ _ _ (hb4.drewN _) R4.out n (t0 + L) wn).mono ?_
    rw [A2.out]
    rintro e w6 ⟨rfl, j6, rfl⟩
    go_wp2_with fail
    refine (alive_any _ _ _ _ _ _ (hb4.drewN _) R4.out n (t0 + L + 1) wn).mono ?_
    rw [A3.out]
    rintro e w7 ⟨rfl, j7, rfl⟩
    go_wp2_with fail
    refine (seen_any _ _ m4 L 2 f2 (hb4.drewN _) (by omega) n (t0 + t1) (by omega) (by omega)).mono ?_
    rintro e w8 ⟨rfl, m8, hb8, t8, hm8⟩
    rw [← F3.out] at hb8
    have hm8' : ∀ m, m8 = some m → wc.heap.size < m := fun m h => by
      rcases hm8 m h with h | h
      · exact hm4' m h
      · exact Nat.lt_of_lt_of_le (Nat.lt_of_lt_of_le (Nat.lt_of_lt_of_le hb0.blk.lt t3.size) t4.size) h
    have T8 : Touch [] w w8 := (T4.drewN_ _).trans t8 (t8.beat hB (fun m h => by have := hm4' m h; omega))
    have hbx8 := t8.blk (hbx4.drewN _) (by simp; exact ⟨by omega, fun h => by have := hm4' _ h; omega⟩)
    clear c0 c1 hm8
    have c1 := hbx8.cell 1
    have c0 := hbx8.cell 0
    have r8 := fun k v (hk : f3 k = some v) => (hb8.map.rng k v hk).2.2
    have R8 := Lib.hid r8
    clear r8
    go_wp2_with fail
    refine (alive_any _ _ _ _ _ _ hb8 R8.out n (t0 + t1 + L) wn).mono ?_
    rw [A4.out]
    rintro e w9 ⟨rfl, j9, rfl⟩
    go_wp2_with fail
    refine (alive_any _ _ _ _ _ _ (hb8.drewN _) R8.out n (t0 + t1 + L + 1) wn).mono ?_
    rw [A5.out]
    rintro e w10 ⟨rfl, j10, rfl⟩
    go_wp2_with fail
    refine (forget_any _ _ _ _ _ _ (hb8.drewN _) n wn).mono ?_
    rw [I3.out]
    rintro e w11 ⟨rfl, hb11, t11⟩
    rw [← F4.out] at hb11
    have T11 : Touch [] w w11 := (T8.drewN_ _).trans t11 (t11.beat hB (fun m h => by have := hm8' m h; omega))
    have hbx11 := t11.blk (hbx8.drewN _) (by simp; exact ⟨by omega, fun h => by have := hm8' _ h; omega⟩)
    clear c0 c1
    have c1 := hbx11.cell 1
    have c0 := hbx11.cell 0
    have r11 := fun k v (hk : f4 k = some v) => (hb11.map.rng k v hk).2.2
    have R11 := Lib.hid r11
    clear r11
    go_wp2_with fail
    refine (alive_any _ _ _ _ _ _ hb11 R11.out n (t0 + t1) wn).mono ?_
    rw [A6.out]
    rintro e w12 ⟨rfl, j12, rfl⟩
    go_wp2_with fail
    refine (alive_any _ _ _ _ _ _ (hb11.drewN _) R11.out (n + 1) t1 wn').mono ?_
    rw [A7.out]
    rintro e w13 ⟨rfl, j13, rfl⟩
    go_wp2_with fail
    go_ret
    exact ⟨rfl, T11.drewN_ _⟩

theorem beatLasts_walk (nd L : Int) (cs : Array Value) (w : World) (hw0 : (Lit.int .i64 nd).wf = true) (_hw1 : (Lit.int .i64 L).wf = true) (h : Rd w 37 cs.toList) :
    Calls Try.prog 4 #[.int .i64 nd, .int .i64 L, .agg cs] w fun e w' => e = .returned (.bool true) ∧ Touch [] w w' := by
  obtain ⟨t0, t1, rfl⟩ : ∃ t0 t1, cs = #[.int .i64 t0, .int .i64 t1] := by
    obtain ⟨hl, he⟩ := h.array Try.underlying37
    have hl2 : cs.toList.length = 2 := hl.trans (by kernel_rfl)
    have c1 : Try.prog.cellsOf 3 = 1 := by kernel_rfl
    obtain ⟨l⟩ := cs
    match l, hl2 with
    | [x, y], _ =>
      have h0 := he 0 (by omega)
      have h1 := he 1 (by omega)
      rw [c1] at h0 h1
      obtain ⟨a, ha, _⟩ := Rd.int Try.underlying3 h0
      obtain ⟨b, hb, _⟩ := Rd.int Try.underlying3 h1
      simp at ha hb
      exact ⟨a, b, by rw [ha, hb]⟩
  by_cases hout : L < 0 ∨ 1099511627776 ≤ L ∨ t0 < 0 ∨ 1099511627776 ≤ t0 ∨ t1 < 0 ∨ 1099511627776 ≤ t1
  · exact beatLasts_out awake15 nd L t0 t1 hw0 w hout
  · exact beatLasts_in awake15 nd L t0 t1 hw0 w (by omega) (by omega) (by omega) (by omega) (by omega) (by omega)

end Go.Proofs.Ytknkomnhfkbmiaa

/- BeatOthers's walk. -/
import Derived.Test.YtknkomnhfkbmiaaBeatAwake
import Derived.Test.YtknkomnhfkbmiaaArgs
namespace Go.Proofs.Ytknkomnhfkbmiaa
open Go.RowKit Go.Maps

/-- the calls that came in: each a row of three ints -/
def OpsAt (w : World) (a : Option Addr) (len : Nat) (g : Nat → Int × Int × Int) : Prop :=
  ∀ i, i < len → ∃ blk off, a = some ⟨blk, off, none⟩ ∧ w.cell? ⟨blk, off + i * 3, none⟩ = some (.int .i64 (g i).1) ∧ w.cell? ⟨blk, off + i * 3 + 1, none⟩ = some (.int .i64 (g i).2.1) ∧
    w.cell? ⟨blk, off + i * 3 + 2, none⟩ = some (.int .i64 (g i).2.2) ∧ (Lit.int .i64 (g i).2.1).wf = true

theorem Rd.ops {w : World} {a : Option Addr} {len cap : Nat} (h : Rd w 22 [.slice a len cap]) : len ≤ cap ∧ cap ≤ maxLen ∧ ∃ g, OpsAt w a len g := by
  obtain ⟨hl, hc, _, _, he⟩ := h.rows Try.underlying22 (m := 3) (by kernel_rfl) (by omega)
  refine ⟨hl, hc, ?_⟩
  have key : ∀ i, i < len → ∃ x : Int × Int × Int, ∃ blk off, a = some ⟨blk, off, none⟩ ∧ w.cell? ⟨blk, off + i * 3, none⟩ = some (.int .i64 x.1) ∧ w.cell? ⟨blk, off + i * 3 + 1, none⟩ = some (.int .i64 x.2.1) ∧
      w.cell? ⟨blk, off + i * 3 + 2, none⟩ = some (.int .i64 x.2.2) ∧ (Lit.int .i64 x.2.1).wf = true := by
    intro i hi
    obtain ⟨blk, off, cs, rfl, hlen, hcell, hrd⟩ := he i hi
    have c1 : Try.prog.cellsOf 3 = 1 := by kernel_rfl
    obtain ⟨_, hf⟩ := hrd.struct Try.underlying29
    match cs, hlen with
    | [x, y, z], _ =>
      have f0 : Rd w 3 (([x, y, z].drop 0).take (Try.prog.cellsOf 3)) := hf 0 _ rfl
      have f1 : Rd w 3 (([x, y, z].drop 1).take (Try.prog.cellsOf 3)) := hf 1 _ rfl
      have f2 : Rd w 3 (([x, y, z].drop 2).take (Try.prog.cellsOf 3)) := hf 2 _ rfl
      rw [c1] at f0 f1 f2
      obtain ⟨m0, h0, w0⟩ := Rd.int Try.underlying3 f0
      obtain ⟨m1, h1, w1⟩ := Rd.int Try.underlying3 f1
      obtain ⟨m2, h2, w2⟩ := Rd.int Try.underlying3 f2
      simp at h0 h1 h2
      subst h0 h1 h2
      exact ⟨(m0, m1, m2), blk, off, rfl, hcell 0 (by omega), hcell 1 (by omega), hcell 2 (by omega), w1⟩
  refine ⟨fun i => if h : i < len then (key i h).choose else (0, 0, 0), fun i hi => ?_⟩
  simp only [dif_pos hi]
  exact (key i hi).choose_spec

theorem OpsAt.touch {w w' : World} {a : Option Addr} {len : Nat} {g : Nat → Int × Int × Int} (h : OpsAt w a len g) (ht : Touch [] w w') : OpsAt w' a len g := by
  intro i hi
  obtain ⟨blk, off, e, h0, h1, h2, h3⟩ := h i hi
  exact ⟨blk, off, e, ht.cell h0 (by simp), ht.cell h1 (by simp), ht.cell h2 (by simp), h3⟩

set_option maxRecDepth 100000 in
set_option maxHeartbeats 2000000 in
theorem beatOthers_w (L : Int) (a : Option Addr) (len cap : Nat) (g : Nat → Int × Int × Int) (kd nd now : Int) (hw : (Lit.int .i64 nd).wf = true) (w : World) (_hl : len ≤ cap) (hc : cap ≤ maxLen) (ho : OpsAt w a len g) :
    Calls Try.prog 6 #[.int .i64 L, .slice a len cap, .agg #[.int .i64 kd, .int .i64 nd, .int .i64 now]] w fun e w' => e = .returned (.bool true) ∧ Touch [] w w' := by
  unfold maxLen at hc
  have _hc := hc
  have hcl0 := clk_lo L
  have hcl1 := clk_hi L
  go_enter Try.func6, Try.ntmps6
  go_wp2_with fail
  refine (awake15 _).mono ?_
  rintro e w1 ⟨rfl, htw1⟩
  have hx1 : Blk w1 w.heap.size 29 #[.int .i64 kd, .int .i64 nd, .int .i64 now] := htw1.blk (Blk.new w _ _) (by simp)
  have T1 : Touch [] w w1 := ((Touch.refl [] w).alloc _).trans htw1 (by simp)
  have hsz1 : w.heap.size < w1.heap.size := hx1.lt
  go_wp2_with fail
  refine (new_any _ _).mono ?_
  rintro e w2 ⟨rfl, hw2⟩
  have hb2 := beat_new w1 (clk L) hcl0 hcl1
  rw [← hw2] at hb2
  have hx2 : Blk w2 w.heap.size 29 #[.int .i64 kd, .int .i64 nd, .int .i64 now] := by rw [hw2]; exact hx1.alloc _
  have T2 : Touch [] w w2 := by rw [hw2]; exact T1.alloc _
  obtain ⟨b, hbe⟩ : ∃ b, b = w1.heap.size := ⟨_, rfl⟩
  rw [← hbe] at hb2 hsz1 ⊢
  clear hw2 hx1 T1 htw1
  have HBE := Lib.hid hbe
  clear hbe
  go_wp2_with fail
  go_loopw [9] (fun u wr => ∃ (i : Nat) (mo : Option Nat) (n : Nat) (f : Int → Option Int), u = .int .i64 i ∧ i ≤ len ∧ i ≤ 40 ∧ n ≤ i ∧ BeatAt wr b mo (clk L) n f ∧ Touch [] w wr ∧ Blk wr w.heap.size 29 #[.int .i64 kd, .int .i64 nd, .int .i64 now] ∧ (∀ m, mo = some m → w.heap.size < m))
    (fun u _ => len - (intOf u).toNat)
  case atStart => exact ⟨0, none, 0, f0, rfl, Nat.zero_le _, by omega, Nat.le_refl _, hb2, T2, hx2, by simp⟩
  case round =>
    obtain ⟨i, mo, n, f, rfl, hi, hi4, hn, hb, T, hx, hm⟩ := hrel
    by_cases hgo : i < len ∧ i < 40
    · obtain ⟨hlt, h40⟩ := hgo
      · -- a round
        obtain ⟨blk, off, had, _, q1, q2, q3⟩ := ho.touch T i hlt
        subst had
        go_wp2_with fail
        go_still_tail 11, (by kernel_rfl)
        change wpList _ _ _ _ _ wr.drew
        go_wp2_with fail
        refine (seen_tot _ _ mo _ n f (hb.drewN 1) (by omega) _ _).mono ?_
        rintro e wn ⟨rfl, mo', n', hb', hn', t', hm'⟩
        have Tn : Touch [] w wn := T.drew_.trans t' (t'.beat (by omega) (fun m h => by have := hm m h; omega))
        have hxn := t'.blk hx (by simp; exact ⟨by omega, fun h => by have := hm _ h; omega⟩)
        have hmn : ∀ m, mo' = some m → w.heap.size < m := fun m h => by
          rcases hm' m h with h | h
          · exact hm m h
          · exact Nat.lt_of_lt_of_le hx.lt h
        clear q1 q2 q3
        go_wp2_with fail
        go_roundw
        case rel => exact ⟨i + 1, mo', n', _, by go_num, by omega, by omega, by omega, hb', Tn, hxn, hmn⟩
        case measure => simp [intOf]; omega
    · obtain ⟨wo, rfl⟩ : ∃ wo : World, wo = wr := ⟨_, rfl⟩
      by_cases hlt : i < len
      all_goals
        go_wp2_with fail
        generalize hw5 : wo.alloc _ = w5
        obtain ⟨cs0, hH0, hcs0⟩ : ∃ cs, Blk w5 wo.heap.size 42 cs ∧ cs.size = 64 := ⟨_, hw5 ▸ Blk.new wo _ _, rfl⟩
        have hb5 : BeatAt w5 b mo (clk L) n f := hb.touch (hw5 ▸ (Touch.refl [] wo).alloc _) (by simp) (by simp)
        have T5 : Touch [] w w5 := T.trans (hw5 ▸ (Touch.refl [] wo).alloc _) (by simp)
        have hx5 : Blk w5 w.heap.size 29 #[.int .i64 kd, .int .i64 nd, .int .i64 now] := by rw [← hw5]; exact hx.alloc _
        have hbH : b ≠ wo.heap.size := by have := hb.blk.lt; omega
        have hmH : ∀ m, mo = some m → m ≠ wo.heap.size := fun m h => by have := hb.lt_map h; omega
        have hxH : w.heap.size ≠ wo.heap.size := by have := hx.lt; omega
        have hHw : w.heap.size < wo.heap.size := hx.lt
        obtain ⟨H, hHe⟩ : ∃ H, H = wo.heap.size := ⟨_, rfl⟩
        rw [← hHe] at hH0 hbH hmH hxH hHw ⊢
        have R := Lib.hid (fun k v (hk : f k = some v) => (hb5.map.rng k v hk).2.2)
        clear hw5 hHe hx hb T
        go_loopw [11] (fun u wr => ∃ (k : Nat) (cs : Array Value), u = .int .i64 k ∧ k ≤ 64 ∧ Blk wr H 42 cs ∧ cs.size = 64 ∧ (∀ j : Nat, j < k → cs[j]? = some (.bool (aliveB (clk L) f j kd))) ∧ BeatAt wr b mo (clk L) n f ∧
            Touch [] w wr ∧ Blk wr w.heap.size 29 #[.int .i64 kd, .int .i64 nd, .int .i64 now])
          (fun u _ => 64 - (intOf u).toNat)
        case atStart => exact ⟨0, cs0, rfl, by omega, hH0, hcs0, fun j hj => absurd hj (Nat.not_lt_zero _), hb5, T5, hx5⟩
        case round =>
          obtain ⟨k, cs, rfl, hk, hH, hcs, hcj, hb6, T6, hx6⟩ := hrel
          have x0 := hx6.cell 0
          have x1 := hx6.cell 1
          have x2 := hx6.cell 2
          have HC := Lib.hid hcj
          clear hcj
          by_cases hk64 : k < 64
          · have al := alive_any wr b mo (clk L) n f hb6 R.out k kd (wf64 (by omega) (by omega))
            have AL := Lib.hid al
            clear al
            obtain ⟨old, hold⟩ : ∃ old, wr.cell? ⟨H, k, none⟩ = some old := ⟨_, (hH.cell k).trans (Array.getElem?_eq_getElem (by omega))⟩
            have hfr := hH.frozen k
            go_wp2_with (go_at_call 18; refine AL.out.mono ?_; rintro e w7 ⟨rfl, j7, rfl⟩)
            go_roundw
            case rel =>
              refine ⟨k + 1, _, by go_num, by omega, (hH.drewN _).set_ k _, by simpa using hcs, fun j hj => ?_, (hb6.drewN _).touch ((Touch.refl [H] _).setCell _ _ (.inl (by simp))) (by simpa using hbH) (fun m hm2 => by simpa using hmH m hm2), (T6.drewN_ _).trans ((Touch.refl [H] _).setCell _ _ (.inl (by simp))) (by simp; omega), (hx6.drewN _).far hxH _⟩
              rw [Array.getElem?_setIfInBounds]
              by_cases e : k = j
              · subst e; rw [if_pos rfl, if_pos (by omega)]
              · rw [if_neg e]; exact HC.out j (by omega)
            case measure => simp [intOf]; omega
          · go_wp2_with fail
            refine (seen_tot _ _ mo _ n f hb6 (by omega) nd now).mono ?_
            rintro e w8 ⟨rfl, mo8, n8, hb8, hn8, t8, hm8⟩
            have T8 : Touch [] w w8 := T6.trans t8 (t8.beat (by omega) (fun m h => by have := hm m h; omega))
            have hx8 := t8.blk hx6 (by simp; exact ⟨by omega, fun h => by have := hm _ h; omega⟩)
            have hH8 := t8.blk hH (by simp; exact ⟨by omega, fun h => by have := hmH _ h; omega⟩)
            have hmH8 : ∀ m, mo8 = some m → m ≠ H ∧ w.heap.size < m := fun m h => by
              rcases hm8 m h with h | h
              · exact ⟨hmH m h, hm m h⟩
              · have := hH.lt; omega
            obtain ⟨f8, hf8⟩ : ∃ f8, f8 = seenF f nd now := ⟨_, rfl⟩
            rw [← hf8] at hb8
            have hfo : ∀ j, j ≠ nd → f8 j = f j := fun j hj => by rw [hf8]; exact seenF_other f nd now j hj
            have FO := Lib.hid hfo
            clear hm8 hf8 hfo x0 x1 x2
            have x0 := hx8.cell 0
            have x1 := hx8.cell 1
            have x2 := hx8.cell 2
            by_cases hmod : now.tmod 2 = 0
            · go_wp2_with fail
              refine (forget_any _ _ _ _ _ _ hb8 nd hw).mono ?_
              rintro e w9 ⟨rfl, hb9, t9⟩
              have T9 : Touch [] w w9 := T8.trans t9 (t9.beat (by omega) (fun m h => by have := hmH8 m h; omega))
              have hx9 := t9.blk hx8 (by simp; exact ⟨by omega, fun h => by have := hmH8 _ h; omega⟩)
              have hH9 := t9.blk hH8 (by simp; exact ⟨by omega, fun h => by have := hmH8 _ h; omega⟩)
              obtain ⟨f9, hf9⟩ : ∃ f9, f9 = upd f8 nd none := ⟨_, rfl⟩
              rw [← hf9] at hb9
              have hfo : ∀ j, j ≠ nd → f9 j = f j := fun j hj => by rw [hf9, ← FO.out j hj]; simp [upd, hj]
              have FO9 := Lib.hid hfo
              have RF := Lib.hid (fun k v (hk : f9 k = some v) => (hb9.map.rng k v hk).2.2)
              clear hf9 hfo
              clear x0 x1 x2
              have x0 := hx9.cell 0
              have x1 := hx9.cell 1
              have x2 := hx9.cell 2
              go_wp2_with fail
              go_loopw [13] (fun u wr => ∃ k : Nat, u = .int .i64 k ∧ k ≤ 64 ∧ BeatAt wr b mo8 (clk L) n8 f9 ∧ Blk wr H 42 cs ∧ Blk wr w.heap.size 29 #[.int .i64 kd, .int .i64 nd, .int .i64 now] ∧ Touch [] w wr)
                (fun u _ => 64 - (intOf u).toNat)
              case atStart => exact ⟨0, rfl, by omega, hb9, hH9, hx9, T9⟩
              case round =>
                obtain ⟨q, rfl, hq, hbq, hHq, hxq, Tq⟩ := hrel
                clear x0 x1 x2
                have x0 := hxq.cell 0
                have x1 := hxq.cell 1
                by_cases hq64 : q < 64
                · by_cases hqn : (q : Int) = nd
                  · have hqn' : ((q : Int) != nd) = false := by simp [hqn]
                    have hqn2 : ((q : Int) == nd) = true := by simp [hqn]
                    have HQ := Lib.hid hqn
                    clear hqn
                    go_wp2_with fail
                    go_quiet (fail)
                    go_wp2_with fail
                    go_roundw
                    case rel => exact ⟨q + 1, by go_num, by omega, hbq.drewN _, hHq.drewN _, hxq.drewN _, Tq.drewN_ _⟩
                    case measure => simp [intOf]; omega
                  · have hqn' : ((q : Int) != nd) = true := by simp [hqn]
                    have hqn2 : ((q : Int) == nd) = false := by simp [hqn]
                    have hal := fun jj => alive_any (World.drewN wr jj) b mo8 (clk L) n8 f9 (hbq.drewN jj) RF.out q kd (wf64 (by omega) (by omega))
                    have hsame : aliveB (clk L) f9 q kd = aliveB (clk L) f q kd := by unfold aliveB; rw [FO9.out q hqn]
                    rw [hsame] at hal
                    have cq : wr.cell? ⟨H, q, none⟩ = some (.bool (aliveB (clk L) f q kd)) := (hHq.cell q).trans (HC.out q (by omega))
                    have HAL := Lib.hid hal
                    clear hal hsame
                    obtain ⟨av, hav⟩ : ∃ av, av = aliveB (clk L) f q kd := ⟨_, rfl⟩
                    rw [← hav] at cq HAL
                    clear hav
                    go_wp2_with fail
                    go_quiet ((go_at_call 18; exact Calls.quiet_of (HAL.out _)))
                    go_wp2_with fail
                    go_roundw
                    case rel => exact ⟨q + 1, by go_num, by omega, hbq.drewN _, hHq.drewN _, hxq.drewN _, Tq.drewN_ _⟩
                    case measure => simp [intOf]; omega
                · have hinR : (inR nd == (decide (0 ≤ nd) && decide (nd < 64))) = true := by unfold inR; simp
                  have HI := Lib.hid hinR
                  clear hinR
                  by_cases n0 : 0 ≤ nd
                  all_goals
                    go_wp2_with fail
                    go_ret
                    refine ⟨ret_bool ?_, Tq⟩
                    have hh := HI.out
                    simp_all
            · have hmod' : (now.tmod 2 == 0) = false := by simpa using hmod
              obtain ⟨f9, hf9⟩ : ∃ f9, f9 = f8 := ⟨_, rfl⟩
              have hb9 : BeatAt w8 b mo8 (clk L) n8 f9 := hf9 ▸ hb8
              have hfo : ∀ j, j ≠ nd → f9 j = f j := fun j hj => by rw [hf9, ← FO.out j hj]
              have FO9 := Lib.hid hfo
              have RF := Lib.hid (fun k v (hk : f9 k = some v) => (hb9.map.rng k v hk).2.2)
              have T9 := T8
              have hx9 := hx8
              have hH9 := hH8
              clear hf9 hfo hmod
              go_wp2_with fail
              go_loopw [13] (fun u wr => ∃ k : Nat, u = .int .i64 k ∧ k ≤ 64 ∧ BeatAt wr b mo8 (clk L) n8 f9 ∧ Blk wr H 42 cs ∧ Blk wr w.heap.size 29 #[.int .i64 kd, .int .i64 nd, .int .i64 now] ∧ Touch [] w wr)
                (fun u _ => 64 - (intOf u).toNat)
              case atStart => exact ⟨0, rfl, by omega, hb9, hH9, hx9, T9⟩
              case round =>
                obtain ⟨q, rfl, hq, hbq, hHq, hxq, Tq⟩ := hrel
                clear x0 x1 x2
                have x0 := hxq.cell 0
                have x1 := hxq.cell 1
                by_cases hq64 : q < 64
                · by_cases hqn : (q : Int) = nd
                  · have hqn' : ((q : Int) != nd) = false := by simp [hqn]
                    have hqn2 : ((q : Int) == nd) = true := by simp [hqn]
                    have HQ := Lib.hid hqn
                    clear hqn
                    go_wp2_with fail
                    go_quiet (fail)
                    go_wp2_with fail
                    go_roundw
                    case rel => exact ⟨q + 1, by go_num, by omega, hbq.drewN _, hHq.drewN _, hxq.drewN _, Tq.drewN_ _⟩
                    case measure => simp [intOf]; omega
                  · have hqn' : ((q : Int) != nd) = true := by simp [hqn]
                    have hqn2 : ((q : Int) == nd) = false := by simp [hqn]
                    have hal := fun jj => alive_any (World.drewN wr jj) b mo8 (clk L) n8 f9 (hbq.drewN jj) RF.out q kd (wf64 (by omega) (by omega))
                    have hsame : aliveB (clk L) f9 q kd = aliveB (clk L) f q kd := by unfold aliveB; rw [FO9.out q hqn]
                    rw [hsame] at hal
                    have cq : wr.cell? ⟨H, q, none⟩ = some (.bool (aliveB (clk L) f q kd)) := (hHq.cell q).trans (HC.out q (by omega))
                    have HAL := Lib.hid hal
                    clear hal hsame
                    obtain ⟨av, hav⟩ : ∃ av, av = aliveB (clk L) f q kd := ⟨_, rfl⟩
                    rw [← hav] at cq HAL
                    clear hav
                    go_wp2_with fail
                    go_quiet ((go_at_call 18; exact Calls.quiet_of (HAL.out _)))
                    go_wp2_with fail
                    go_roundw
                    case rel => exact ⟨q + 1, by go_num, by omega, hbq.drewN _, hHq.drewN _, hxq.drewN _, Tq.drewN_ _⟩
                    case measure => simp [intOf]; omega
                · have hinR : (inR nd == (decide (0 ≤ nd) && decide (nd < 64))) = true := by unfold inR; simp
                  have HI := Lib.hid hinR
                  clear hinR
                  by_cases n0 : 0 ≤ nd
                  all_goals
                    go_wp2_with fail
                    go_ret
                    refine ⟨ret_bool ?_, Tq⟩
                    have hh := HI.out
                    simp_all

theorem beatOthers_walk (L : Int) (a : Option Addr) (len cap : Nat) (cs : Array Value) (w : World) (_hwL : (Lit.int .i64 L).wf = true) (h1 : Rd w 22 [.slice a len cap]) (h2 : Rd w 29 cs.toList) :
    Calls Try.prog 6 #[.int .i64 L, .slice a len cap, .agg cs] w fun e w' => e = .returned (.bool true) ∧ Touch [] w w' := by
  obtain ⟨hl, hc, g, ho⟩ := h1.ops
  obtain ⟨kd, nd, now, rfl, hw⟩ : ∃ kd nd now, cs = #[.int .i64 kd, .int .i64 nd, .int .i64 now] ∧ (Lit.int .i64 nd).wf = true := by
    obtain ⟨hlen, hf⟩ := h2.struct Try.underlying29
    have hlen3 : cs.toList.length = 3 := hlen.trans (by kernel_rfl)
    have c1 : Try.prog.cellsOf 3 = 1 := by kernel_rfl
    obtain ⟨l⟩ := cs
    match l, hlen3 with
    | [x, y, z], _ =>
      have f0 : Rd w 3 (([x, y, z].drop 0).take (Try.prog.cellsOf 3)) := hf 0 _ rfl
      have f1 : Rd w 3 (([x, y, z].drop 1).take (Try.prog.cellsOf 3)) := hf 1 _ rfl
      have f2 : Rd w 3 (([x, y, z].drop 2).take (Try.prog.cellsOf 3)) := hf 2 _ rfl
      rw [c1] at f0 f1 f2
      obtain ⟨m0, e0, w0⟩ := Rd.int Try.underlying3 f0
      obtain ⟨m1, e1, w1⟩ := Rd.int Try.underlying3 f1
      obtain ⟨m2, e2, w2⟩ := Rd.int Try.underlying3 f2
      simp at e0 e1 e2
      subst e0 e1 e2
      exact ⟨m0, m1, m2, rfl, w1⟩
  exact beatOthers_w L a len cap g kd nd now hw w hl hc ho

end Go.Proofs.Ytknkomnhfkbmiaa

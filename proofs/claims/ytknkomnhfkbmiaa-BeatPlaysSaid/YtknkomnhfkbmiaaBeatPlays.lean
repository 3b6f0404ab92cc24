/- BeatPlays's walk. -/
import Derived.Test.YtknkomnhfkbmiaaBeatOthers
import Derived.Test.YtknkomnhfkbmiaaBeatRef
import Derived.Deep.RegionHeld3
import Derived.Deep.DeepCutAuto
import Derived.Deep.CutBlock
namespace Go.Proofs.Ytknkomnhfkbmiaa
open Go.RowKit Go.Maps

/-- both beats, and what they share -/
structure Both (w : World) (b r : Nat) (mo : Option Nat) (L : Int) (n : Nat) (f : Int → Option Int) : Prop where
  beat : BeatAt w b mo L n f
  ref : RefAt w r L f
  ne : b ≠ r
  nem : ∀ m, mo = some m → m ≠ r

theorem Both.touch {S : List Nat} {w w' : World} {b r : Nat} {mo : Option Nat} {L : Int} {n : Nat} {f : Int → Option Int} (h : Both w b r mo L n f) (ht : Touch S w w') (hb : b ∉ S) (hr : r ∉ S) (hm : ∀ m, mo = some m → m ∉ S) : Both w' b r mo L n f :=
  ⟨h.beat.touch ht hb hm, h.ref.touch ht hr, h.ne, h.nem⟩

theorem Both.drewN {w : World} {b r : Nat} {mo : Option Nat} {L : Int} {n : Nat} {f : Int → Option Int} (h : Both w b r mo L n f) (j : Nat) : Both (w.drewN j) b r mo L n f := h.touch (Touch.drewN [] w j) (by simp) (by simp) (by simp)

/-- how many stand below -/
def cntB (ss : List Int) (q : Nat) : Nat := (ss.filter fun x => decide (x < (q : Int))).length
theorem cntB_le (ss : List Int) (q : Nat) : cntB ss q ≤ ss.length := List.length_filter_le _ _
theorem cntB_zero (ss : List Int) (h : ∀ x ∈ ss, 0 ≤ x) : cntB ss 0 = 0 := by
  unfold cntB
  rw [List.length_eq_zero_iff, List.filter_eq_nil_iff]
  intro x hx
  have := h x hx
  simp; omega
theorem cntB_all (ss : List Int) (q : Nat) (h : ∀ x ∈ ss, x < (q : Int)) : cntB ss q = ss.length := by
  unfold cntB
  rw [List.filter_eq_self.2 (fun x hx => by simpa using h x hx)]
theorem cntB_skip {ss : List Int} {q : Nat} (hp : ss.Pairwise (· < ·)) (hn : ((q : Nat) : Int) ∉ ss) : cntB ss (q + 1) = cntB ss q := by
  unfold cntB
  congr 1
  apply List.filter_congr
  intro x hx
  have : x ≠ (q : Int) := fun e => hn (e ▸ hx)
  rw [decide_eq_decide]
  omega
theorem cntB_hit : ∀ {ss : List Int} {q : Nat}, ss.Pairwise (· < ·) → ((q : Nat) : Int) ∈ ss → ∃ h : cntB ss q < ss.length, ss[cntB ss q] = (q : Int) ∧ cntB ss (q + 1) = cntB ss q + 1
  | [], _, _, hm => by cases hm
  | x :: l, q, hp, hm => by
    rw [List.pairwise_cons] at hp
    by_cases hx : x = (q : Int)
    · have h0 : cntB (x :: l) q = 0 := by
        unfold cntB
        rw [List.length_eq_zero_iff, List.filter_eq_nil_iff]
        intro y hy
        rcases List.mem_cons.1 hy with rfl | hy
        · simp; omega
        · have := hp.1 y hy; simp; omega
      have h1 : cntB (x :: l) (q + 1) = 1 := by
        unfold cntB
        rw [List.filter_cons, if_pos (by simp; omega), List.filter_eq_nil_iff.2 (fun y hy => by have := hp.1 y hy; simp; omega)]
        rfl
      refine ⟨by rw [h0]; simp, ?_, by rw [h0, h1]⟩
      simp only [h0]
      exact hx
    · have hml : ((q : Nat) : Int) ∈ l := by
        rcases List.mem_cons.1 hm with h | h
        · exact absurd h.symm hx
        · exact h
      have hxq : x < (q : Int) := hp.1 _ hml
      obtain ⟨h1, h2, h3⟩ := cntB_hit hp.2 hml
      have e1 : cntB (x :: l) q = cntB l q + 1 := by unfold cntB; rw [List.filter_cons, if_pos (by simpa using hxq)]; rfl
      have e2 : cntB (x :: l) (q + 1) = cntB l (q + 1) + 1 := by unfold cntB; rw [List.filter_cons, if_pos (by simp; omega)]; rfl
      refine ⟨by rw [e1]; simp; exact h1, ?_, by rw [e1, e2, h3]⟩
      simp only [e1, List.getElem_cons_succ]
      exact h2
theorem alive_some {L : Int} {f : Int → Option Int} {k now : Int} (h : aliveB L f k now = true) : ∃ v, f k = some v := by
  unfold aliveB at h
  cases hv : f k with
  | none => rw [hv] at h; cases h
  | some v => exact ⟨v, rfl⟩
theorem sorted_rng {L : Int} {f : Int → Option Int} {now x : Int} {ss : List Int} (hr : ∀ k v, f k = some v → 0 ≤ k ∧ k < 64 ∧ 0 ≤ v ∧ v ≤ 1125899906842624) (hm : x ∈ ss ↔ aliveB L f x now = true) (hx : x ∈ ss) : 0 ≤ x := by
  obtain ⟨v, hv⟩ := alive_some (hm.1 hx)
  exact (hr x v hv).1

set_option maxRecDepth 100000 in
set_option maxHeartbeats 4000000 in
theorem beatPlays_w (L : Int) (a : Option Addr) (len cap : Nat) (g : Nat → Int × Int × Int) (w : World) (hc : cap ≤ maxLen) (hl : len ≤ cap) (ho : OpsAt w a len g) :
    Calls Try.prog 3 #[.int .i64 L, .slice a len cap] w fun e w' => e = .returned (.bool true) ∧ Touch [] w w' := by
  unfold maxLen at hc
  have hcl0 := clk_lo L
  have hcl1 := clk_hi L
  go_enter Try.func3, Try.ntmps3
  go_wp2_with fail
  refine (awake15 _).mono ?_
  rintro e w1 ⟨rfl, T1⟩
  go_wp2_with fail
  refine (new_any _ _).mono ?_
  rintro e w2 ⟨rfl, hw2⟩
  have hb2 := beat_new w1 (clk L) hcl0 hcl1
  rw [← hw2] at hb2
  have T2 : Touch [] w w2 := by rw [hw2]; exact T1.alloc _
  obtain ⟨b, hbe⟩ : ∃ b, b = w1.heap.size := ⟨_, rfl⟩
  have hwb : w.heap.size ≤ b := by rw [hbe]; exact T1.size
  rw [← hbe] at hb2 ⊢
  clear hw2 hbe
  go_wp2_with fail
  refine (rnew_any _ _).mono ?_
  rintro e w3 ⟨rfl, hr3, t3⟩
  have hb3 := hb2.touch t3 (by simp) (by simp)
  have T3 : Touch [] w w3 := T2.trans t3 (by simp)
  have hbr : b < w2.heap.size := hb2.blk.lt
  obtain ⟨r, hre⟩ : ∃ r, r = w2.heap.size := ⟨_, rfl⟩
  rw [← hre] at hr3 hbr ⊢
  clear hre
  have hB3 : Both w3 b r none (clk L) 0 f0 := ⟨hb3, hr3, by omega, by simp⟩
  go_wp2_with fail
  go_loopw [8] (fun u wr => ∃ (i : Nat) (mo : Option Nat) (n : Nat) (f : Int → Option Int), u = .int .i64 i ∧ i ≤ len ∧ i ≤ 100 ∧ n ≤ i ∧ Both wr b r mo (clk L) n f ∧ Touch [] w wr ∧ (∀ m, mo = some m → w.heap.size ≤ m))
    (fun u _ => len - (intOf u).toNat)
  case atStart => exact ⟨0, none, 0, f0, rfl, Nat.zero_le _, by omega, Nat.le_refl _, hB3, T3, by simp⟩
  case round =>
    obtain ⟨i, mo, n, f, rfl, hi, hi100, hn, hB, T, hm⟩ := hrel
    obtain ⟨wo, rfl⟩ : ∃ wo : World, wo = wr := ⟨_, rfl⟩
    by_cases hgo : i < len ∧ i < 100
    · obtain ⟨hlt, h100⟩ := hgo
      obtain ⟨blk, off, had, q0, q1, q2, q3⟩ := ho.touch T i hlt
      subst had
      obtain ⟨kd, hkd⟩ : ∃ kd, kd = (g i).1 := ⟨_, rfl⟩
      obtain ⟨nd, hnd⟩ : ∃ nd, nd = (g i).2.1 := ⟨_, rfl⟩
      obtain ⟨now, hnow⟩ : ∃ now, now = (g i).2.2 := ⟨_, rfl⟩
      rw [← hkd] at q0
      rw [← hnd] at q1 q3
      rw [← hnow] at q2
      clear hkd hnd hnow
      go_upto_if 49 with (fail)
      have hr0 : -5 ≤ kd.tmod 6 ∧ kd.tmod 6 ≤ 5 := by
        have h1 := Int.tmod_lt_of_pos kd (show (0:Int) < 6 by decide)
        have h2 := Int.lt_tmod_of_pos kd (show (0:Int) < 6 by decide)
        omega
      obtain ⟨km, hkm⟩ : ∃ km, km = kd.tmod 6 := ⟨_, rfl⟩
      rw [← hkm] at hr0 ⊢
      obtain ⟨hr0, hr1⟩ := hr0
      clear hkm
      generalize hw4 : wo.alloc _ = w4
      go_cut [10] (fun s10 wx => (∃ k : Int, s10 = .int .i64 k ∧ 0 ≤ k ∧ k ≤ 5) ∧ wx = w4)
      case first =>
        by_cases hneg : km < 0
        · go_wp2
          go_meet
          exact ⟨⟨_, rfl, by omega, by omega⟩, rfl⟩
        · go_wp2
          go_meet
          exact ⟨⟨_, rfl, by omega, by omega⟩, rfl⟩
      case rest =>
        obtain ⟨⟨k, rfl, hk0, hk5⟩, rfl⟩ := hcut
        clear hr0 hr1
        have hx : Blk wc wo.heap.size 29 #[.int .i64 kd, .int .i64 nd, .int .i64 now] := hw4 ▸ Blk.new wo _ _
        have t4 : Touch [] wo wc := hw4 ▸ (Touch.refl [] wo).alloc _
        clear hw4
        go_upto_block 2 with (fail)
        have hB4 := Both.touch hB t4 (by simp) (by simp) (by simp)
        have T4 : Touch [] w wc := T.trans t4 (by simp)
        have x1 := hx.cell 1
        have x2 := hx.cell 2
        have hOb : wo.heap.size ≠ b := by have := hB.beat.blk.lt; omega
        have hOr : wo.heap.size ≠ r := by have := hB.ref.lt; omega
        have hOm : ∀ m, mo = some m → m ≠ wo.heap.size := fun m h => by have := hB.beat.lt_map h; omega
        have hOw : w.heap.size ≤ wo.heap.size := T.size
        obtain ⟨O, hO⟩ : ∃ O, O = wo.heap.size := ⟨_, rfl⟩
        rw [← hO] at hx x1 x2 hOb hOr hOm hOw ⊢
        clear hO
        go_cut [11] (fun s11 wx => s11 = .bool true ∧ ∃ (mo' : Option Nat) (n' : Nat) (f' : Int → Option Int), n' ≤ n + 1 ∧ Both wx b r mo' (clk L) n' f' ∧ Touch [] w wx ∧ (∀ m, mo' = some m → w.heap.size ≤ m) ∧ Blk wx O 29 #[.int .i64 kd, .int .i64 nd, .int .i64 now])
        case first =>
          by_cases k3 : k ≤ 2
          · have hk012 : k = 0 ∨ k = 1 ∨ k = 2 := by omega
            rcases hk012 with rfl | rfl | rfl
            all_goals
              go_wp2_with fail
              go_region_held3 (fun w' => w'.cell? ⟨O, 1, none⟩ = some (.int .i64 nd) ∧ w'.cell? ⟨O, 2, none⟩ = some (.int .i64 now)) (first | exact ⟨x1, x2⟩ | exact ⟨y1, y2⟩ | exact ⟨z1, z2⟩)
                (first
                  | (go_at_call 10; refine (seen_tot _ _ mo _ n f (hB4.beat.drewN 1) (by omega) nd now).mono ?_; rintro e w5 ⟨rfl, mo5, n5, hb5, hn5, t5, hm5⟩; have hO5 := t5.blk (hx.drewN 1) (by simp; exact ⟨hOb, fun h => hOm O h rfl⟩); have y1 := hO5.cell 1; have y2 := hO5.cell 2)
                  | (go_at_call 11; refine (rseen_any _ r _ f ((hB4.ref.drewN 1).touch t5 (by simp; exact ⟨fun h => hB4.ne h.symm, fun h => hB4.nem r h rfl⟩)) nd now).mono ?_; rintro e w6 ⟨rfl, hr6, t6⟩; have hO6 := t6.blk hO5 (by simpa using hOr); have z1 := hO6.cell 1; have z2 := hO6.cell 2))
              have hrlt := hB4.ref.lt
              have hbr5 : b ≠ r := hB4.ne
              have hm5' : ∀ m, mo5 = some m → m ≠ r ∧ w.heap.size ≤ m := fun m h => by
                rcases hm5 m h with h | h
                · exact ⟨hB4.nem m h, hm m h⟩
                · have h' : wc.heap.size ≤ m := h
                  have := T4.size
                  exact ⟨by omega, by omega⟩
              have hB6 : Both w6 b r mo5 (clk L) n5 (seenF f nd now) := ⟨hb5.touch t6 (by simpa using hbr5) (fun m h => by simpa using (hm5' m h).1), hr6, hbr5, fun m h => (hm5' m h).1⟩
              have T6 : Touch [] w w6 := ((T4.drewN_ 1).trans t5 (t5.beat hwb hm)).trans t6 (by simp; omega)
              clear x1 x2 y1 y2 z1 z2
              go_wp2_with fail
              go_meet
              exact ⟨by simp, mo5, n5, _, hn5, hB6, T6, fun m h => (hm5' m h).2, hO6⟩
          · by_cases k4 : k = 3
            · subst k4
              go_wp2_with fail
              go_region_held3 (fun w' => w'.cell? ⟨O, 1, none⟩ = some (.int .i64 nd) ∧ w'.cell? ⟨O, 2, none⟩ = some (.int .i64 now)) (first | exact ⟨x1, x2⟩ | exact ⟨y1, y2⟩ | exact ⟨z1, z2⟩)
                (first
                  | (go_at_call 12; refine (forget_any _ _ mo _ n f (hB4.beat.drewN 1) nd q3).mono ?_; rintro e w5 ⟨rfl, hb5, t5⟩; have hO5 := t5.blk (hx.drewN 1) (by simp; exact ⟨hOb, fun h => hOm O h rfl⟩); have y1 := hO5.cell 1; have y2 := hO5.cell 2)
                  | (go_at_call 13; refine (rforget_any _ r _ f ((hB4.ref.drewN 1).touch t5 (by simp; exact ⟨fun h => hB4.ne h.symm, fun h => hB4.nem r h rfl⟩)) nd).mono ?_; rintro e w6 ⟨rfl, hr6, t6⟩; have hO6 := t6.blk hO5 (by simpa using hOr); have z1 := hO6.cell 1; have z2 := hO6.cell 2))
              have hbr5 : b ≠ r := hB4.ne
              have hB6 : Both w6 b r mo (clk L) n (upd f nd none) := ⟨hb5.touch t6 (by simpa using hbr5) (fun m h => by simpa using hB4.nem m h), hr6, hbr5, hB4.nem⟩
              have T6 : Touch [] w w6 := ((T4.drewN_ 1).trans t5 (t5.beat hwb hm)).trans t6 (by simp; omega)
              clear x1 x2 y1 y2 z1 z2
              go_wp2_with fail
              go_meet
              exact ⟨by simp, mo, n, _, by omega, hB6, T6, hm, hO6⟩
            · have e0 : (k == 0) = false := by simp; omega
              have e1 : (k == 1) = false := by simp; omega
              have e2 : (k == 2) = false := by simp; omega
              have e3 : (k == 3) = false := by simp; omega
              go_wp2_with fail
              go_meet
              exact ⟨rfl, mo, n, f, by omega, hB4, T4, hm, hx⟩
        case rest =>
          obtain ⟨rfl, mo', n', f', hn', hB', T', hm', hx'⟩ := hcut
          clear hB4 T4 hx x1 x2 hOm hB T hm t4
          have x1 := hx'.cell 1
          have x2 := hx'.cell 2
          -- Last, of both
          go_wp2_with fail
          refine (last_any _ _ _ _ _ _ hB'.beat nd q3).mono ?_
          rintro e w7 ⟨rfl, rfl⟩
          go_wp2_with fail
          refine (rlast_any _ _ _ _ hB'.ref nd).mono ?_
          rintro e w7 ⟨rfl, rfl⟩
          go_wp2_with fail
          refine (due_any _ _ _ _ _ _ hB'.beat now).mono ?_
          rintro e w8 ⟨d, dx, rfl, hd, t8⟩
          have hB8 := hB'.touch t8 (by simp) (by simp) (by simp)
          have hx8 := t8.blk hx' (by simp)
          have T8 := T'.trans t8 (by simp)
          clear x1 x2
          have x1 := hx8.cell 1
          have x2 := hx8.cell 2
          have HD := Lib.hid hd
          clear hd
          go_wp2_with fail
          refine (rdue_any _ _ _ _ hB8.ref now).mono ?_
          rintro e w9 ⟨d2, dx2, rfl, hd2, hj9⟩
          have t9 : Touch [] w8 w9 := by
            rcases hj9 with ⟨j, rfl⟩
            exact Touch.drewN [] _ j
          clear hj9
          have hB9 := hB8.touch t9 (by simp) (by simp) (by simp)
          have hx9 := t9.blk hx8 (by simp)
          have T9 := T8.trans t9 (by simp)
          clear x1 x2
          have x1 := hx9.cell 1
          have x2 := hx9.cell 2
          obtain ⟨rfl, rfl⟩ := HD.out.one hd2
          clear hd2
          have hAl := fun jj => alive_any (World.drewN w9 jj) b mo' (clk L) n' f' (hB9.beat.drewN jj) (fun k v hk => (hB9.ref.rng k v hk).2.2) nd now q3
          have hRl := fun jj => ralive_any (World.drewN w9 jj) r (clk L) f' (hB9.ref.drewN jj) nd now
          have HAL := Lib.hid hAl
          have HRL := Lib.hid hRl
          obtain ⟨av, hav⟩ : ∃ av, av = aliveB (clk L) f' nd now := ⟨_, rfl⟩
          obtain ⟨tv, htv⟩ : ∃ tv, tv = (f' nd).getD 0 := ⟨_, rfl⟩
          obtain ⟨iv, hiv⟩ : ∃ iv, iv = (f' nd).isSome := ⟨_, rfl⟩
          rw [← hav] at HAL HRL
          rw [← htv, ← hiv]
          clear hav htv hiv hAl hRl
          go_wp2_with fail
          go_quiet ((first
            | (go_at_call 18; exact Calls.quiet_of (HAL.out _))
            | (go_at_call 19; exact Calls.quiet_of (HRL.out _))))
          go_wp2_with fail
          refine (all_any _ _ _ _ _ _ (hB9.beat.drewN _) (by omega) now).mono ?_
          rintro e w10 ⟨al, cp, ss, rfl, hs, hp, hmem, t10⟩
          have hB10 := hB9.touch (((Touch.refl [] w9).drewN_ _).trans t10 (by simp)) (by simp) (by simp) (by simp)
          have hx10 := t10.blk (hx9.drewN _) (by simp)
          have T10 := (T9.drewN_ _).trans t10 (by simp)
          have HRNG := Lib.hid hB10.ref.rng
          clear x1 x2
          have x2 := hx10.cell 2
          have HP := Lib.hid hp
          have HM := Lib.hid hmem
          clear hp hmem
          go_wp2_with fail
          obtain ⟨w11, rfl⟩ : ∃ w11 : World, w11 = w10 := ⟨_, rfl⟩
          go_loopw [21, 22] (fun u v wr => ∃ (q j : Nat), u = .int .i64 (cntB ss q) ∧ v = .int .i64 q ∧ q ≤ 64 ∧ cntB ss q ≤ q ∧ wr = w11.drewN j) (fun _ v _ => 64 - (intOf v).toNat)
          case atStart =>
            have hz := cntB_zero ss (fun x hx => sorted_rng HRNG.out (HM.out x) hx)
            exact ⟨0, 0, by rw [hz]; rfl, rfl, by omega, by omega, rfl⟩
          case round =>
            obtain ⟨q, j, rfl, rfl, hq, hcq, rfl⟩ := hrel
            have hcl := cntB_le ss q
            by_cases hq64 : q < 64
            · have hrl := ralive_any (w11.drewN j) r (clk L) f' (hB10.ref.drewN j) q now
              have HRL := Lib.hid hrl
              clear hrl
              cases ha : aliveB (clk L) f' q now with
              | false =>
                rw [ha] at HRL
                have hns : ((q : Nat) : Int) ∉ ss := fun h => by rw [(HM.out q).1 h] at ha; cases ha
                have HC := Lib.hid (cntB_skip HP.out hns)
                clear ha hns
                go_wp2_with fail
                refine HRL.out.mono ?_
                rintro e w12 ⟨rfl, j12, rfl⟩
                go_wp2_with fail
                go_roundw
                case rel => exact ⟨q + 1, _, by rw [HC.out], by go_num, by omega, by rw [HC.out]; omega, rfl⟩
                case measure => simp [intOf]; omega
              | true =>
                rw [ha] at HRL
                obtain ⟨hc1, hc2, hc3⟩ := cntB_hit HP.out ((HM.out q).2 ha)
                obtain ⟨gb, rfl, hcell⟩ : ∃ gb, al = some ⟨gb, 0, none⟩ ∧ w11.cell? ⟨gb, cntB ss q, none⟩ = some (.int .i64 q) := by
                  rcases hs with h | ⟨gb, h1, h2⟩
                  · rw [h] at hc1; simp at hc1
                  · exact ⟨gb, h1, by have := h2 (cntB ss q) hc1; rw [hc2] at this; exact this⟩
                have HC := Lib.hid hc3
                clear ha hc2 hc3
                have hq1 : ((q : Int) != (q : Int)) = false := by simp
                go_wp2_with fail
                refine HRL.out.mono ?_
                rintro e w12 ⟨rfl, j12, rfl⟩
                go_wp2_with fail
                go_roundw
                case rel => exact ⟨q + 1, _, by rw [HC.out]; go_num, by go_num, by omega, by rw [HC.out]; omega, rfl⟩
                case measure => simp [intOf]; omega
            · obtain rfl : q = 64 := by omega
              have hall := cntB_all ss 64 (fun x hx => (HRNG.out x _ (alive_some ((HM.out x).1 hx)).choose_spec).2.1)
              have hall2 : ((cntB ss 64 : Int) != (ss.length : Int)) = false := by rw [hall]; simp
              have hall3 : ((cntB ss 64 : Int) == (ss.length : Int)) = true := by rw [hall]; simp
              have HALL := Lib.hid hall
              clear hall
              go_wp2_with fail
              go_roundw
              case rel => exact ⟨i + 1, mo', n', f', by go_num, by omega, by omega, by omega, hB10.drewN _, T10.drewN_ _, hm'⟩
              case measure => simp [intOf]; omega
    · by_cases hlt : i < len
      all_goals
        go_wp2_with fail
        go_ret
        exact ⟨rfl, T⟩

theorem beatPlays_walk (L : Int) (a : Option Addr) (len cap : Nat) (w : World) (_hwL : (Lit.int .i64 L).wf = true) (h1 : Rd w 22 [.slice a len cap]) :
    Calls Try.prog 3 #[.int .i64 L, .slice a len cap] w fun e w' => e = .returned (.bool true) ∧ Touch [] w w' := by
  obtain ⟨hl, hc, g, ho⟩ := h1.ops
  exact beatPlays_w L a len cap g w hc hl ho

end Go.Proofs.Ytknkomnhfkbmiaa

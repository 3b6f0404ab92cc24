/- law09: DiskPlays. -/
import Derived.Test.YtaemebchblhpcaaDiskDoes
import Derived.Test.YtaemebchblhpcaaDiskRef7
import Derived.Deep.DeepCutAuto
import Derived.Deep.RegionHeld3
namespace Go.Proofs.Ytaemebchblhpcaa
open Go.RowKit Go.Maps Go.WideMaps
open DM (N F FL Sorted)

/-- the calls that came in -/
def OpsAt (w : World) (a : Option Addr) (len : Nat) : Prop :=
  ∀ i, i < len → ∃ blk off kd N nme txt a0 l0 c0 ps, a = some ⟨blk, off, none⟩ ∧ w.cell? ⟨blk, off + i * 5, none⟩ = some (.int .i64 kd) ∧ w.cell? ⟨blk, off + i * 5 + 1, none⟩ = some (.int .i64 N) ∧
    w.cell? ⟨blk, off + i * 5 + 2, none⟩ = some (.string nme) ∧ w.cell? ⟨blk, off + i * 5 + 3, none⟩ = some (.string txt) ∧ w.cell? ⟨blk, off + i * 5 + 4, none⟩ = some (.slice a0 l0 c0) ∧
    (Lit.int .i64 N).wf = true ∧ nme.size ≤ maxLen ∧ txt.size ≤ maxLen ∧ Picks w (.slice a0 l0 c0) ps
set_option maxRecDepth 10000 in
theorem Rd.dops {w : World} {a : Option Addr} {len cap : Nat} (h : Rd w 41 [.slice a len cap]) : len ≤ cap ∧ cap ≤ maxLen ∧ OpsAt w a len := by
  obtain ⟨hl, hc, _, _, he⟩ := h.rows Try.underlying41 (m := 5) (by kernel_rfl) (by omega)
  refine ⟨hl, hc, fun i hi => ?_⟩
  obtain ⟨blk, off, cs, rfl, hlen, hcell, hrd⟩ := he i hi
  have c1 : Try.prog.cellsOf 3 = 1 := by kernel_rfl
  have c2 : Try.prog.cellsOf 9 = 1 := by kernel_rfl
  have c3 : Try.prog.cellsOf 23 = 1 := by kernel_rfl
  obtain ⟨_, hf⟩ := hrd.struct Try.underlying45
  match cs, hlen with
  | [x, y, z, u, v], _ =>
    have f0 : Rd w 3 (([x, y, z, u, v].drop 0).take (Try.prog.cellsOf 3)) := hf 0 _ rfl
    have f1 : Rd w 3 (([x, y, z, u, v].drop 1).take (Try.prog.cellsOf 3)) := hf 1 _ rfl
    have f2 : Rd w 9 (([x, y, z, u, v].drop 2).take (Try.prog.cellsOf 9)) := hf 2 _ rfl
    have f3 : Rd w 9 (([x, y, z, u, v].drop 3).take (Try.prog.cellsOf 9)) := hf 3 _ rfl
    have f4 : Rd w 23 (([x, y, z, u, v].drop 4).take (Try.prog.cellsOf 23)) := hf 4 _ rfl
    rw [c1] at f0 f1
    rw [c2] at f2 f3
    rw [c3] at f4
    obtain ⟨kd, h0, _⟩ := Rd.int Try.underlying3 f0
    obtain ⟨N, h1, w1⟩ := Rd.int Try.underlying3 f1
    obtain ⟨nme, h2, s2⟩ := Rd.string Try.underlying9 f2
    obtain ⟨txt, h3, s3⟩ := Rd.string Try.underlying9 f3
    obtain ⟨a0, l0, c0, h4, _⟩ := Rd.slice Try.underlying23 f4
    simp at h0 h1 h2 h3 h4
    subst h0 h1 h2 h3 h4
    obtain ⟨ps, hp⟩ := Rd.picks (w := w) (a := a0) (len := l0) (cap := c0) f4
    exact ⟨blk, off, kd, N, nme, txt, a0, l0, c0, ps, rfl, hcell 0 (by omega), hcell 1 (by omega), hcell 2 (by omega), hcell 3 (by omega), hcell 4 (by omega), w1, s2, s3, hp⟩

set_option maxRecDepth 10000 in
set_option maxHeartbeats 6400000 in
theorem plays_w (room : Int) (hroom : (Lit.int .i64 room).wf = true) (a : Option Addr) (len cap : Nat) (w : World) (hl : len ≤ cap) (hc : cap ≤ maxLen) (ho : OpsAt w a len) :
    Calls Try.prog 7 #[.int .i64 room, .slice a len cap] w fun e w' => e = .returned (.bool true) ∧ Touch [] w w' := by
  have HO := Lib.hid ho
  have HR := Lib.hid hroom
  unfold maxLen at hc
  clear ho hroom
  go_enter Try.func7, Try.ntmps7
  go_wp2_with fail
  refine (awake_any _).mono ?_
  rintro e w1 ⟨rfl, T1⟩
  go_wp2_with fail
  refine (new_any room HR.out w1).mono ?_
  rintro e w2 ⟨rfl, hd2, T2⟩
  go_wp2_with fail
  refine (rnew_any room HR.out w2 w.heap.size).mono ?_
  rintro e w3 ⟨rfl, hr3, T3⟩
  have hp3 : Pair w w3 w1.heap.size w2.heap.size 0 0 (DM.new room) (DM.new room) := ⟨none, _, hd2.touch T3 (by simp) (by simp), hr3, (T1.trans T2 (by simp)).trans T3 (by simp), T1.size, (fun q hq => by cases hq), Nat.le_trans T1.size T2.size⟩
  have HP3 := Lib.hid hp3
  clear hd2 hr3 T2 T3 T1 hp3
  go_wp2_with fail
  go_loopw [6, 7, 8] (fun v6 v7 v8 wr => ∃ (i b r n m : Nat) (d : DM.D), v6 = .pointer (some ⟨b, 0, none⟩) ∧ v7 = .pointer (some ⟨r, 0, none⟩) ∧ v8 = .int .i64 i ∧ i ≤ 80 ∧ i ≤ len ∧ n ≤ 2 * i ∧ m ≤ 2 * i ∧ Pair w wr b r n m d d ∧ DM.Good d (400 * i))
    (fun _ _ v8 _ => 80 - (intOf v8).toNat)
  case atStart => exact ⟨0, _, _, 0, 0, _, rfl, rfl, rfl, by omega, by omega, by omega, by omega, HP3.out, DM.Good.new room⟩
  case round =>
    obtain ⟨i, b, r, n, m, d, rfl, rfl, rfl, hi, hil, hn, hm, hp, hg⟩ := hrel
    by_cases hlt : i < 80 ∧ i < len
    · obtain ⟨h80, hlt⟩ := hlt
      obtain ⟨blk, off, kd, N, nme, txt, a0, l0, c0, ps, rfl, q0, q1, q2, q3, q4, hN, hs2, hs3, hps⟩ := HO.out i hlt
      have Tr := hp.T
      have x0 := Tr.cell q0 (by simp)
      have x1 := Tr.cell q1 (by simp)
      have x2 := Tr.cell q2 (by simp)
      have x3 := Tr.cell q3 (by simp)
      have x4 := Tr.cell q4 (by simp)
      have z2 := cutS_size nme 100
      have z3 := cutS_size txt 400
      obtain ⟨nm', hnm'⟩ : ∃ s, s = cutS nme 100 := ⟨_, rfl⟩
      obtain ⟨tx', htx'⟩ : ∃ s, s = cutS txt 400 := ⟨_, rfl⟩
      have sh2 := fun w => short_any w nme 100 hs2 (by omega)
      have sh3 := fun w => short_any w txt 400 hs3 (by omega)
      rw [← hnm'] at sh2 z2
      rw [← htx'] at sh3 z3
      have S2 := Lib.hid sh2
      have S3 := Lib.hid sh3
      have Z := Lib.hid (And.intro z2.1 z3.1)
      have HP := Lib.hid hp
      have HG := Lib.hid hg
      have HPS := Lib.hid hps
      have HN := Lib.hid hN
      clear q0 q1 q2 q3 q4 hs2 hs3 hnm' htx' sh2 sh3 z2 z3 hp hg hps hN Tr
      go_wp2_with fail
      refine (S2.out _).mono ?_
      rintro e wx ⟨rfl, rfl⟩
      go_wp2_with fail
      refine (S3.out _).mono ?_
      rintro e wx ⟨rfl, rfl⟩
      go_upto_if 49 with (fail)
      obtain ⟨w5, hw5⟩ : ∃ w5, w5 = wr.alloc (.cells #[.int .i64 kd, .int .i64 N, .string nm', .string tx', .slice a0 l0 c0] 45) := ⟨_, rfl⟩
      have hO : Blk w5 wr.heap.size 45 (opV kd N nm' tx' a0 l0 c0) := hw5 ▸ Blk.new _ _ _
      have T5 : Touch [] wr w5 := hw5 ▸ (Touch.refl [] wr).alloc _
      obtain ⟨O, hOe⟩ : ∃ O, O = wr.heap.size := ⟨_, rfl⟩
      rw [← hw5]
      simp only [← hOe] at hO ⊢
      have hp5 := HP.out.touch T5
      have HP5 := Lib.hid hp5
      have HO5 := Lib.hid hO
      have hu5 : DM.used d.fl ≤ 400 * i := HG.out.us
      have HU5 := Lib.hid hu5
      clear hw5 hOe hO T5 hp5 x0 x1 x2 x3 x4 hu5 HP
      go_cut [6, 7] from 24 to 120 (fun s6 s7 wx => ∃ b' r', s6 = .pointer (some ⟨b', 0, none⟩) ∧ s7 = .pointer (some ⟨r', 0, none⟩) ∧ Pair w wx b' r' n m d d ∧ Blk wx O 45 (opV kd N nm' tx' a0 l0 c0))
      case first =>
        by_cases h9 : kd.tmod 13 = 9
        · have h9' : (kd.tmod 13 == 9) = true := by simpa using h9
          obtain ⟨mo, v, hd, hr, T, hb1, hb2, hb3⟩ := HP5.out
          have hblt := hd.blk.lt
          have hmlt : ∀ q, mo = some q → q < w5.heap.size := fun q hq => hd.lt_map hq
          go_wp2_with fail
          refine (copy_any w5 b n mo d hd).mono ?_
          rintro e w6 ⟨rfl, mc, hd6, T6, hmc⟩
          go_wp2_with fail
          refine (rcopy_any w6 _ r m v d (hr.touch T6 (by simp) (by simp)) (by omega) (Nat.le_trans T.size T6.size)).mono ?_
          rintro e w7 ⟨rfl, v7, hr7, T7⟩
          have hold := (hd.touch T6 (by simp) (by simp)).touch T7 (by simp) (by simp)
          have hnew := hd6.touch T7 (by simp) (by simp)
          have hap := apart hold hr7
          have hO7 := T7.blk (T6.blk HO5.out (by simp)) (by simp)
          have hus := HU5.out
          go_wp2_with fail
          refine (append_any w7 b n mo d hold (by omega) sA ⟨#[63]⟩ (by decide) (by show _ + 1 ≤ _; omega)).mono ?_
          rintro e w8 ⟨rfl, mo8, _, D8⟩
          have hK8 := Keep.disk hold D8.1
          have hO8 := hK8 _ _ _ hO7 (by decide) (by decide) (by decide)
          have hnew8 : DiskAt w8 w5.heap.size mc n d := hnew.touch D8.1 (by
            simp only [List.mem_cons, not_or]
            exact ⟨by omega, fun h => by simp at h; have := hmlt _ h; omega⟩) (fun q hq => by
            have := hmc q hq
            simp only [List.mem_cons, not_or]
            exact ⟨by omega, fun h => by simp at h; have := hmlt _ h; omega⟩)
          have hr8 := hr7.touch D8.1 hap.1 hap.2.1
          have T8 : Touch [] w w8 := ((T.trans T6 (by simp)).trans T7 (by simp)).trans D8.1 (fun k hk => by
            rcases List.mem_cons.1 hk with rfl | hk
            · exact .inr hb1
            · simp at hk; exact .inr (hb2 k hk))
          have hpn : Pair w w8 w5.heap.size w6.heap.size n m d d := ⟨mc, v7, hnew8, hr8, T8, T.size, fun q hq => Nat.le_trans T.size (hmc q hq), Nat.le_trans T.size T6.size⟩
          have HPN := Lib.hid hpn
          clear hpn hnew8 hr8 T8 hK8 hap hnew hold hr7 hd6 hO7 D8
          go_wp2_with fail
          go_meet
          exact ⟨_, _, rfl, rfl, HPN.out, hO8⟩
        · have h9' : (kd.tmod 13 == 9) = false := by simpa using h9
          go_wp2_with fail
          go_meet
          exact ⟨_, _, rfl, rfl, HP5.out, HO5.out⟩
      case rest =>
        obtain ⟨b1, r1, rfl, rfl, hp6, hO6⟩ := hcut
        obtain ⟨w6, rfl⟩ : ∃ x, x = wc := ⟨_, rfl⟩
        have y0 : w6.cell? ⟨O, 0, none⟩ = some (.int .i64 kd) := hO6.cell 0
        have y1 : w6.cell? ⟨O, 1, none⟩ = some (.int .i64 N) := hO6.cell 1
        have y2 : w6.cell? ⟨O, 2, none⟩ = some (.string nm') := hO6.cell 2
        have y3 : w6.cell? ⟨O, 3, none⟩ = some (.string tx') := hO6.cell 3
        have y4 : w6.cell? ⟨O, 4, none⟩ = some (.slice a0 l0 c0) := hO6.cell 4
        have hus := HU5.out
        have hz := Z.out
        have hdoes := does_any w w6 b1 r1 n m d hp6 (by omega) (by omega) kd N nm' tx' a0 l0 c0 HN.out (by unfold maxLen; omega) hz.2 (by omega) (by unfold maxLen; omega) (by unfold maxLen; omega) ps HPS.out
        have HD := Lib.hid hdoes
        clear hdoes hp6 hz hus hO6
        go_wp2_with fail
        refine HD.out.mono ?_
        rintro e w7 ⟨rfl, d1, hp7, _, hgood⟩
        have hg7 := hgood _ HG.out
        have HG7 := Lib.hid hg7
        have HP7 := Lib.hid hp7
        clear hgood hg7 hp7 HD y0 y1 y2 y3 y4 HP5 HO5 HG HU5
        obtain ⟨mo, v, hd7, hr7, T7, hb1, hb2, hb3⟩ := HP7.out
        obtain ⟨ra, rcap, hv, hcr, hmr, hr0, hop⟩ := hr7.open
        subst hv
        have hlen := hr7.fit.len
        have hus9 : DM.used d1.fl ≤ 1099511627776 := hr7.fit.small
        have hn7 : n + 2 < 1099511627776 := by omega
        go_wp2_with fail
        refine (names_any w7 b1 (n + 2) mo d1 hd7 hn7).mono ?_
        rintro e w8 ⟨na, ncap, rfl, hsl, T8⟩
        have hnl : (DM.names d1.fl).length = d1.fl.length := by simp [DM.names]
        rw [hnl]
        have hd8 := hd7.touch T8 (by simp) (by simp)
        have hr8 := hr7.touch T8 (by simp) (by simp)
        have q1 : w8.cell? ⟨r1, 1, none⟩ = some (.slice ra d1.fl.length rcap) := hr8.c1
        have q2 := hr8.c2
        have q5 := hr8.c5
        have p1 : w8.drew.cell? ⟨r1, 1, none⟩ = some (.slice ra d1.fl.length rcap) := q1
        have p2 : w8.drew.cell? ⟨r1, 2, none⟩ = some (.bool d1.off) := q2
        have p5 : w8.drew.cell? ⟨r1, 5, none⟩ = some (.int .i64 d1.done) := q5
        have hX : ∀ W, Touch [] w8 W → W.cell? ⟨r1, 1, none⟩ = some (.slice ra d1.fl.length rcap) ∧ W.cell? ⟨r1, 2, none⟩ = some (.bool d1.off) ∧ W.cell? ⟨r1, 5, none⟩ = some (.int .i64 d1.done) := fun W hW => by
          have h9 := hr8.touch hW (by simp) (by simp)
          exact ⟨h9.c1, h9.c2, h9.c5⟩
        have hU : ∀ W, Touch [] w8 W → Calls Try.prog 16 #[.pointer (some ⟨b1, 0, none⟩)] W fun e w' => e = .returned (.int .i64 (DM.used d1.fl)) ∧ Touch [] W w' := fun W hW => used_any W b1 (n + 2) mo d1 (hd8.touch hW (by simp) (by simp)) (by omega)
        have hRU : ∀ W, Touch [] w8 W → Calls Try.prog 27 #[.pointer (some ⟨r1, 0, none⟩)] W fun e w' => e = .returned (.int .i64 (DM.used d1.fl)) ∧ ∃ j, w' = W.drewN j := fun W hW => rused_any W _ r1 (m + 2) _ d1 (hr8.touch hW (by simp) (by simp)) (by omega)
        have hST : ∀ W, Touch [] w8 W → Calls Try.prog 20 #[.pointer (some ⟨b1, 0, none⟩)] W fun e w' => e = .returned (.int .i64 d1.done) ∧ w' = W := fun W hW => steps_any W b1 (n + 2) mo d1 (hd8.touch hW (by simp) (by simp))
        have hON : ∀ W, Touch [] w8 W → Calls Try.prog 19 #[.pointer (some ⟨b1, 0, none⟩)] W fun e w' => e = .returned (.bool (!d1.off)) ∧ w' = W := fun W hW => on_any W b1 (n + 2) mo d1 (hd8.touch hW (by simp) (by simp))
        have hoff : ((!d1.off) == d1.off) = false := by cases d1.off <;> rfl
        obtain ⟨us, hus⟩ : ∃ us, us = DM.used d1.fl := ⟨_, rfl⟩
        rw [← hus] at hU hRU
        have XX := Lib.hid hX
        have HU := Lib.hid hU
        have HRU := Lib.hid hRU
        have HST := Lib.hid hST
        have HON := Lib.hid hON
        have HSL := Lib.hid hsl
        have HR8 := Lib.hid hr8
        have HD8 := Lib.hid hd8
        have HOP := Lib.hid hop
        have HR0 := Lib.hid hr0
        have hlb : (d1.fl.length : Int) ≤ 1099511627776 := by omega
        have T78 := Lib.hid (T7.trans T8 (by simp))
        have TD : Touch [] w8 w8.drew := Touch.drewN [] w8 1
        clear hX hU hRU hST hON hsl hr8 hd8 hop hr0 hr7 hd7 T7 T8 hus hus9 hlen hnl
        go_wp2_with fail
        go_region_held3 (fun W => W.cell? ⟨r1, 1, none⟩ = some (.slice ra d1.fl.length rcap) ∧ W.cell? ⟨r1, 2, none⟩ = some (.bool d1.off) ∧ W.cell? ⟨r1, 5, none⟩ = some (.int .i64 d1.done)) (first | exact ⟨q1, q2, q5⟩ | exact ⟨p1, p2, p5⟩ | exact XX.out _ t9 | exact XX.out _ ta)
          (first
            | (go_at_call 16; refine (HU.out _ TD).mono ?_; rintro e w9 ⟨rfl, t9'⟩; have t9 := TD.trans t9' (by simp))
            | (go_at_call 27; refine (HRU.out _ t9).mono ?_; rintro e wa ⟨rfl, ja, rfl⟩; have ta : Touch [] w8 (w9.drewN ja) := t9.drewN_ ja)
            | (go_at_call 20; refine (HST.out _ ta).mono ?_; rintro e wb ⟨rfl, rfl⟩)
            | (go_at_call 19; refine (HON.out _ ta).mono ?_; rintro e wb ⟨rfl, rfl⟩))
        obtain ⟨wo, rfl⟩ : ∃ wo : World, wo = wr := ⟨_, rfl⟩
        clear q1 q2 q5 p1 p2 p5 TD t9'
        go_wp2_with fail
        go_loopw [13] (fun u wr => ∃ k : Nat, u = .int .i64 k ∧ k ≤ d1.fl.length ∧ Touch [] w8 wr) (fun u _ => d1.fl.length - (intOf u).toNat)
        case atStart => exact ⟨0, rfl, Nat.zero_le _, ta⟩
        case round =>
          obtain ⟨k, rfl, hk, tk⟩ := hrel
          have hr9 := HR8.out.touch tk (by simp) (by simp)
          have q1 : wr.cell? ⟨r1, 1, none⟩ = some (.slice ra d1.fl.length rcap) := hr9.c1
          by_cases hkl : k < d1.fl.length
          · obtain ⟨a', cap', hv', _, _, h0', hop'⟩ := hr9.open
            cases hv'
            obtain ⟨g, rfl⟩ : ∃ g, ra = some ⟨g, 0, none⟩ := by
              cases ra with
              | none => have := (HR0.out rfl).1; omega
              | some ad =>
                obtain ⟨g, o, sp⟩ := ad
                obtain ⟨rfl, rfl, _⟩ := hop' g o sp rfl
                exact ⟨g, rfl⟩
            obtain ⟨_, _, _, _, _, hcl⟩ := hop' g 0 none rfl
            obtain ⟨x0, _, _⟩ := hcl k hkl
            obtain ⟨ng, rfl, hnc⟩ : ∃ ng, na = some ⟨ng, 0, none⟩ ∧ wr.cell? ⟨ng, k, none⟩ = some (.string (str d1.fl[k].1)) := by
              rcases HSL.out with h0 | ⟨ng, e, hc⟩
              · have : (DM.names d1.fl).length = 0 := by rw [h0]; rfl
                simp [DM.names] at this
                rw [this] at hkl
                simp at hkl
              · refine ⟨ng, e, tk.cell ?_ (by simp)⟩
                have := hc k (by simp [DM.names]; exact hkl)
                simpa [DM.names] using this
            obtain ⟨ks, hks⟩ : ∃ ks, ks = str d1.fl[k].1 := ⟨_, rfl⟩
            rw [← hks] at x0 hnc
            clear hks hcl hop' h0' hr9
            go_wp2_with fail
            go_quiet (fail)
            go_wp2_with fail
            go_roundw
            case rel => exact ⟨k + 1, by go_num, by omega, tk.drewN_ _⟩
            case measure => simp [intOf]; omega
          · have HR9 := Lib.hid hr9
            clear hr9
            go_wp2_with fail
            go_roundw
            case rel => exact ⟨i + 1, b1, r1, n + 2, m + 2, d1, rfl, rfl, by go_num, by omega, by omega, by omega, by omega, ⟨mo, _, HD8.out.touch tk (by simp) (by simp), HR9.out, T78.out.trans tk (by simp), hb1, hb2, hb3⟩, HG7.out.mono (by omega)⟩
            case measure => simp [intOf]; omega
    · have HP := Lib.hid hp
      have HG := Lib.hid hg
      have hpk : Picks w (.slice none 0 0) [] := fun S _ => ⟨none, 0, rfl, Nat.le_refl _, Nat.zero_le _, by simp, fun h => absurd rfl h⟩
      have HPK := Lib.hid hpk
      have hgc := hg.crash []
      obtain ⟨d2, hd2⟩ : ∃ d2, d2 = DM.crash d [] := ⟨_, rfl⟩
      have hof : d2.off = false := by rw [hd2]; rfl
      have h1 : ∀ W, Pair w W b r n m d d → Calls Try.prog 15 #[.pointer (some ⟨b, 0, none⟩), .slice none 0 0] W fun e w' => e = .returned (.tuple #[]) ∧ Pair w w' b r n m d2 d ∧ Keep W w' := fun W p => by rw [hd2]; exact p.crash (by omega) hpk
      have h2 : ∀ W, Pair w W b r n m d2 d → Calls Try.prog 28 #[.pointer (some ⟨r, 0, none⟩), .slice none 0 0] W fun e w' => e = .returned (.tuple #[]) ∧ Pair w w' b r n m d2 d2 ∧ Keep W w' := fun W p => by
        have := p.rcrash (by omega) hpk
        rw [← hd2] at this
        exact this
      rw [← hd2] at hgc
      have H1 := Lib.hid h1
      have H2 := Lib.hid h2
      have HGC := Lib.hid hgc
      have HOF := Lib.hid hof
      clear hp hg hpk hd2 h1 h2 hgc hof
      have hne : ¬ (i < 80 ∧ i < len) := hlt
      by_cases hlt2 : i < len
      all_goals
        go_wp2_with fail
        refine (H1.out _ HP.out).mono ?_
        rintro e w2' ⟨rfl, p2, _⟩
        go_wp2_with fail
        refine (H2.out _ p2).mono ?_
        rintro e w3' ⟨rfl, p3, _⟩
        have P3 := Lib.hid p3
        clear p2 p3
        go_wp2_with fail
        go_loopw [14] (fun u wr => ∃ k : Nat, u = .int .i64 k ∧ k ≤ d2.fl.length ∧ Pair w wr b r n m d2 d2) (fun u _ => d2.fl.length - (intOf u).toNat)
        case atStart => exact ⟨0, rfl, Nat.zero_le _, P3.out⟩
        case round =>
          obtain ⟨k, rfl, hk, pk⟩ := hrel
          have PK := Lib.hid pk
          obtain ⟨mo, v, hd9, hr9, T9, hb1, hb2, hb3⟩ := pk
          obtain ⟨ra, rcap, hv, hcr, hmr, hr0, hop⟩ := hr9.open
          subst hv
          have q1 : wr.cell? ⟨r, 1, none⟩ = some (.slice ra d2.fl.length rcap) := hr9.c1
          have hlen := hr9.fit.len
          have hlb : (d2.fl.length : Int) ≤ 1099511627776 := by omega
          by_cases hkl : k < d2.fl.length
          · obtain ⟨g, rfl⟩ : ∃ g, ra = some ⟨g, 0, none⟩ := by
              cases ra with
              | none => have := (hr0 rfl).1; omega
              | some ad =>
                obtain ⟨g, o, sp⟩ := ad
                obtain ⟨rfl, rfl, _⟩ := hop g o sp rfl
                exact ⟨g, rfl⟩
            obtain ⟨_, _, _, _, _, hcl⟩ := hop g 0 none rfl
            obtain ⟨x0, x1, _⟩ := hcl k hkl
            have hrd := HGC.out.read HOF.out k hkl
            have hk40 := (hr9.fit.each _ (List.getElem_mem hkl)).2
            have hread := read_any wr b n mo d2 hd9 (str d2.fl[k].1) (by rw [str_size]; unfold maxLen; omega)
            rw [nm_str, hrd] at hread
            have hkeep : ∀ W, Touch [] wr W → W.cell? ⟨r, 1, none⟩ = some (.slice (some ⟨g, 0, none⟩) d2.fl.length rcap) ∧ W.cell? ⟨g, k * 3 + 1, none⟩ = some (.string d2.fl[k].2.1) := fun W hW => ⟨hW.cell q1 (by simp), hW.cell x1 (by simp)⟩
            obtain ⟨ks, hks⟩ : ∃ ks, ks = str d2.fl[k].1 := ⟨_, rfl⟩
            obtain ⟨fd, hfd⟩ : ∃ fd, fd = d2.fl[k].2.1 := ⟨_, rfl⟩
            rw [← hks] at x0 hread
            rw [← hfd] at hread hkeep
            have HRD := Lib.hid hread
            have HKP := Lib.hid hkeep
            clear hks hfd hcl hop hr0 hr9 hd9 T9 hread hkeep hrd hk40 hb1 hb2 hb3 hcr hmr hlen x1
            go_wp2_with fail
            refine HRD.out.mono ?_
            rintro e w4' ⟨rfl, t4⟩
            obtain ⟨z1, z2⟩ := HKP.out w4' t4
            clear q1 x0
            go_wp2_with fail
            go_roundw
            case rel => exact ⟨k + 1, by go_num, by omega, PK.out.touch t4⟩
            case measure => simp [intOf]; omega
          · go_wp2_with fail
            go_ret
            exact ⟨rfl, T9⟩

theorem plays_walk (room : Int) (a : Option Addr) (l c : Nat) (w : World) (hw0 : (Lit.int .i64 room).wf = true) (h : Rd w 41 [.slice a l c]) :
    Calls Try.prog 7 #[.int .i64 room, .slice a l c] w fun e w' => e = .returned (.bool true) ∧ Touch [] w w' := by
  obtain ⟨hl, hc, ho⟩ := h.dops
  exact plays_w room hw0 a l c w hl hc ho
end Go.Proofs.Ytaemebchblhpcaa

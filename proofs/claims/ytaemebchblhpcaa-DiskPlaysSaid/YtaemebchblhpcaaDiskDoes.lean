/- law09: does: one call of both. -/
import Derived.Test.YtaemebchblhpcaaDiskPair
import Derived.Test.YtaemebchblhpcaaDiskRef6
import Derived.Test.YtaemebchblhpcaaDiskOwn
import Derived.Deep.DeepCutAuto
import Derived.Deep.RegionHeld3
namespace Go.Proofs.Ytaemebchblhpcaa
open Go.RowKit Go.Maps Go.WideMaps
open DM (N F FL Sorted)

section
variable {w0 w : World} {b r n m : Nat} {d d' : DM.D}
theorem Pair.crash (h : Pair w0 w b r n m d d') (hn : n < 1099511627776) {a0 : Option Addr} {l0 c0 : Nat} {ps : List Int} (hp : Picks w0 (.slice a0 l0 c0) ps) :
    Calls Try.prog 15 #[.pointer (some ⟨b, 0, none⟩), .slice a0 l0 c0] w fun e w' => e = .returned (.tuple #[]) ∧ Pair w0 w' b r n m (DM.crash d ps) d' ∧ Keep w w' := by
  obtain ⟨mo, v, hd, hr, T, h1, h2, h3⟩ := h
  refine (crash_any w b n mo d hd hn a0 l0 c0 ps ((hp _ (fun k hk => ?_)).touch (T.mono (by simp)))).mono ?_
  · rcases List.mem_cons.1 hk with rfl | hk
    · exact T.size
    · rcases List.mem_cons.1 hk with rfl | hk
      · exact h1
      · simp at hk; exact h2 k hk
  rintro e w' ⟨rfl, hd', ht⟩
  obtain ⟨p, k⟩ := Pair.left hd hr T h1 h2 h3 hd' ht
  exact ⟨rfl, p, k⟩
theorem Pair.rcrash (h : Pair w0 w b r n m d d') (hn : m < 1099511627773) {a0 : Option Addr} {l0 c0 : Nat} {ps : List Int} (hp : Picks w0 (.slice a0 l0 c0) ps) :
    Calls Try.prog 28 #[.pointer (some ⟨r, 0, none⟩), .slice a0 l0 c0] w fun e w' => e = .returned (.tuple #[]) ∧ Pair w0 w' b r n m d (DM.crash d' ps) ∧ Keep w w' := by
  obtain ⟨mo, v, hd, hr, T, h1, h2, h3⟩ := h
  refine (rcrash_any w w0.heap.size r m v d' hr hn a0 l0 c0 ps ((hp _ (fun k hk => ?_)).touch (T.mono (by simp)))).mono ?_
  · rcases List.mem_cons.1 hk with rfl | hk
    · exact h3
    · simp at hk; exact (hr.rowBlk hk).1
  rintro e w' ⟨rfl, hr', ht⟩
  obtain ⟨p, k⟩ := Pair.right hd hr T h1 h2 h3 hr' ht
  exact ⟨rfl, p, k⟩
theorem Pair.arm (h : Pair w0 w b r n m d d') (k : Int) :
    Calls Try.prog 18 #[.pointer (some ⟨b, 0, none⟩), .int .i64 k] w fun e w' => e = .returned (.tuple #[]) ∧ Pair w0 w' b r n m (DM.arm d k) d' ∧ Keep w w' := by
  obtain ⟨mo, v, hd, hr, T, h1, h2, h3⟩ := h
  refine (arm_any w b n mo d hd k).mono ?_
  rintro e w' ⟨rfl, hd', ht⟩
  obtain ⟨p, k⟩ := Pair.left hd hr T h1 h2 h3 hd' (DTouch.same ht)
  exact ⟨rfl, p, k⟩
theorem Pair.rarm (h : Pair w0 w b r n m d d') (k : Int) (hk : (Lit.int .i64 k).wf = true) :
    Calls Try.prog 43 #[.pointer (some ⟨r, 0, none⟩), .int .i64 k] w fun e w' => e = .returned (.tuple #[]) ∧ Pair w0 w' b r n m d (DM.arm d' k) ∧ Keep w w' := by
  obtain ⟨mo, v, hd, hr, T, h1, h2, h3⟩ := h
  refine (rarm_any w _ r m v d' hr k hk).mono ?_
  rintro e w' ⟨rfl, hr', ht⟩
  obtain ⟨p, k⟩ := Pair.right hd hr T h1 h2 h3 hr' (ht.mono (by simp))
  exact ⟨rfl, p, k⟩
theorem Pair.limit (h : Pair w0 w b r n m d d') (k : Int) (hk : (Lit.int .i64 k).wf = true) :
    Calls Try.prog 17 #[.pointer (some ⟨b, 0, none⟩), .int .i64 k] w fun e w' => e = .returned (.tuple #[]) ∧ Pair w0 w' b r n m (DM.limit d k) d' ∧ Keep w w' := by
  obtain ⟨mo, v, hd, hr, T, h1, h2, h3⟩ := h
  refine (limit_any w b n mo d hd k hk).mono ?_
  rintro e w' ⟨rfl, hd', ht⟩
  obtain ⟨p, k⟩ := Pair.left hd hr T h1 h2 h3 hd' (DTouch.same ht)
  exact ⟨rfl, p, k⟩
/-- the room of the document's disk is set -/
theorem Pair.room (h : Pair w0 w b r n m d d') (k : Int) (hk : (Lit.int .i64 k).wf = true) :
    (∃ x, w.cell? ⟨r, 0, none⟩ = some (.int .i64 x)) ∧ w.frozen? ⟨r, 0, none⟩ = false ∧
    (0 ≤ k → Pair w0 (w.setCell ⟨r, 0, none⟩ (.int .i64 k)) b r n m d (DM.limit d' k) ∧ Keep w (w.setCell ⟨r, 0, none⟩ (.int .i64 k))) ∧
    (k < 0 → (w.setCell ⟨r, 0, none⟩ (.int .i64 k)).cell? ⟨r, 0, none⟩ = some (.int .i64 k) ∧ (w.setCell ⟨r, 0, none⟩ (.int .i64 k)).frozen? ⟨r, 0, none⟩ = false ∧ Pair w0 ((w.setCell ⟨r, 0, none⟩ (.int .i64 k)).setCell ⟨r, 0, none⟩ (.int .i64 0)) b r n m d (DM.limit d' k) ∧ Keep w ((w.setCell ⟨r, 0, none⟩ (.int .i64 k)).setCell ⟨r, 0, none⟩ (.int .i64 0))) := by
  obtain ⟨mo, v, hd, hr, T, h1, h2, h3⟩ := h
  have hk2 := (wf64_le hk).2
  obtain ⟨armed, left, hb, hl⟩ := hr.blk
  refine ⟨⟨_, hr.c0⟩, hb.frozen 0, fun h0 => ?_, fun h0 => ⟨(hb.set_ 0 (.int .i64 k)).cell 0, (hb.set_ 0 (.int .i64 k)).frozen 0, ?_⟩⟩
  · have ht : Touch [r] w (w.setCell ⟨r, 0, none⟩ (.int .i64 k)) := (Touch.refl _ _).setCell _ _ (.inl (by simp))
    have e : max k 0 = k := by omega
    have := hr.own (d' := DM.limit d' k) ht ⟨armed, left, by simp only [DM.limit, e]; exact hb.set_ 0 _, hl⟩ (by simp only [DM.limit]; omega) hr.done rfl (Nat.le_refl _)
    exact Pair.right hd hr T h1 h2 h3 this (ht.mono (by simp))
  · have ht : Touch [r] w ((w.setCell ⟨r, 0, none⟩ (.int .i64 k)).setCell ⟨r, 0, none⟩ (.int .i64 0)) := ((Touch.refl _ _).setCell _ _ (.inl (by simp))).setCell _ _ (.inl (by simp))
    have e : max k 0 = 0 := by omega
    have := hr.own (d' := DM.limit d' k) ht ⟨armed, left, by simp only [DM.limit, e]; exact (hb.set_ 0 _).set_ 0 _, hl⟩ (by simp only [DM.limit]; omega) hr.done rfl (Nat.le_refl _)
    exact Pair.right hd hr T h1 h2 h3 this (ht.mono (by simp))
theorem Pair.read (h : Pair w0 w b r n m d d') (k : ByteArray) (hk : k.size ≤ maxLen) :
    Calls Try.prog 14 #[.pointer (some ⟨b, 0, none⟩), .string k] w fun e w' => e = .returned (.tuple #[.string (DM.read d (nm k)).1, .int .i64 (DM.read d (nm k)).2]) ∧ Pair w0 w' b r n m d d' ∧ Keep w w' := by
  have h9 := h
  obtain ⟨mo, v, hd, hr, T, h1, h2, h3⟩ := h
  refine (read_any w b n mo d hd k hk).mono ?_
  rintro e w' ⟨rfl, ht⟩
  exact ⟨rfl, h9.touch ht, Keep.quiet ht⟩
theorem Pair.rread (h : Pair w0 w b r n m d d') (hn : m < 1099511627775) (k : ByteArray) (hk : k.size ≤ maxLen) :
    Calls Try.prog 45 #[.pointer (some ⟨r, 0, none⟩), .string k] w fun e w' => e = .returned (.tuple #[.string (DM.read d' (nm k)).1, .int .i64 (DM.read d' (nm k)).2]) ∧ Pair w0 w' b r n m d d' ∧ Keep w w' := by
  have h9 := h
  obtain ⟨mo, v, hd, hr, T, h1, h2, h3⟩ := h
  refine (rread_any w _ r m v d' hr hn k hk).mono ?_
  rintro e w' ⟨rfl, j, rfl⟩
  exact ⟨rfl, h9.touch (Touch.drewN [] w j), Keep.quiet (Touch.drewN [] w j)⟩
end

theorem Pair.more {w0 w : World} {b r n m : Nat} {d d' : DM.D} (h : Pair w0 w b r n m d d') : Pair w0 w b r (n + 2) (m + 2) d d' := by
  obtain ⟨mo, v, hd, hr, T, h1, h2, h3⟩ := h
  exact ⟨mo, v, hd.mono (by omega), hr.more (by omega), T, h1, h2, h3⟩
/-- a call's fields -/
abbrev opV (kd N : Int) (nme txt : ByteArray) (a0 : Option Addr) (l0 c0 : Nat) : Array Value := #[.int .i64 kd, .int .i64 N, .string nme, .string txt, .slice a0 l0 c0]
set_option maxRecDepth 10000 in
set_option maxHeartbeats 6400000 in
theorem does_any (w0 w : World) (b r n m : Nat) (d : DM.D) (hp : Pair w0 w b r n m d d) (hn : n < 1099511600000) (hm : m < 1099511600000) (kd N : Int) (nme txt : ByteArray) (a0 : Option Addr) (l0 c0 : Nat)
    (hN : (Lit.int .i64 N).wf = true) (hnm : nme.size ≤ maxLen) (htx : txt.size ≤ 400) (hu : DM.used d.fl ≤ 1099511600000) (hnm1 : nme.size ≤ maxLen) (htx1 : txt.size ≤ maxLen) (ps : List Int) (hps : Picks w0 (.slice a0 l0 c0) ps) :
    Calls Try.prog 25 #[.pointer (some ⟨b, 0, none⟩), .pointer (some ⟨r, 0, none⟩), .agg (opV kd N nme txt a0 l0 c0)] w fun e w' => e = .returned (.bool true) ∧ ∃ d1, Pair w0 w' b r (n + 2) (m + 2) d1 d1 ∧ Keep w w' ∧ ∀ u, DM.Good d u → DM.Good d1 (u + 400) := by
  have hX := Blk.new w 45 (opV kd N nme txt a0 l0 c0)
  have TX : Touch [] w (w.alloc (.cells (opV kd N nme txt a0 l0 c0) 45)) := (Touch.refl [] w).alloc _
  have hp1 := hp.touch TX
  have hr9 : -12 ≤ kd.tmod 13 ∧ kd.tmod 13 ≤ 12 := by
    have := Int.tmod_lt_of_pos kd (show (0:Int) < 13 by decide)
    have h2 := Int.lt_tmod_of_pos kd (show (0:Int) < 13 by decide)
    omega
  obtain ⟨q, hq⟩ : ∃ q, q = kd.tmod 13 := ⟨_, rfl⟩
  rw [← hq] at hr9
  obtain ⟨hr0, hr1⟩ := hr9
  have HX := Lib.hid hX
  have HP := Lib.hid hp1
  have HTX := Lib.hid TX
  have HNM := Lib.hid hnm
  have HT1 := Lib.hid (And.intro htx htx1)
  have HU := Lib.hid hu
  have HPS := Lib.hid hps
  have HN := Lib.hid hN
  obtain ⟨w1, hw1⟩ : ∃ w1, w1 = w.alloc (.cells (opV kd N nme txt a0 l0 c0) 45) := ⟨_, rfl⟩
  have c0' : w1.cell? ⟨w.heap.size, 0, none⟩ = some (.int .i64 kd) := hw1 ▸ hX.cell 0
  have c1 : w1.cell? ⟨w.heap.size, 1, none⟩ = some (.int .i64 N) := hw1 ▸ hX.cell 1
  have c2 : w1.cell? ⟨w.heap.size, 2, none⟩ = some (.string nme) := hw1 ▸ hX.cell 2
  have c3 : w1.cell? ⟨w.heap.size, 3, none⟩ = some (.string txt) := hw1 ▸ hX.cell 3
  have c4 : w1.cell? ⟨w.heap.size, 4, none⟩ = some (.slice a0 l0 c0) := hw1 ▸ hX.cell 4
  rw [← hw1] at HX HP HTX
  have HW1 := Lib.hid hw1
  clear hX TX hp1 hp hnm htx htx1 hnm1 hu hps hN
  go_enter Try.func25, Try.ntmps25
  clear hw1
  have hcl : ∀ W, Keep w1.drew W → W.cell? ⟨w.heap.size, 1, none⟩ = some (.int .i64 N) ∧ W.cell? ⟨w.heap.size, 2, none⟩ = some (.string nme) ∧ W.cell? ⟨w.heap.size, 3, none⟩ = some (.string txt) := fun W hk => by
    have hb := hk _ _ _ HX.out (by decide) (by decide) (by decide)
    exact ⟨hb.cell 1, hb.cell 2, hb.cell 3⟩
  have hke : ∀ W, Keep w1.drew W → Keep w W := fun W hk => (Keep.quiet HTX.out.drew_).trans hk
  have hpd : Pair w0 w1.drew b r n m d d := HP.out.touch (Touch.drewN [] w1 1)
  have HCL := Lib.hid hcl
  have HKE := Lib.hid hke
  have HPD := Lib.hid hpd
  clear hcl hke hpd
  have HB := Lib.hid (And.intro c1 (And.intro c2 (And.intro c3 c4)))
  clear c1 c2 c3 c4
  go_upto_if 16 with (fail)
  go_cut [7] (fun s7 wx => (∃ k : Int, s7 = .int .i64 k ∧ 0 ≤ k ∧ k ≤ 12) ∧ wx = w1)
  case first =>
    by_cases hneg : q < 0
    · go_wp2
      go_meet
      exact ⟨⟨_, rfl, by omega, by omega⟩, HW1.out.symm⟩
    · go_wp2
      go_meet
      exact ⟨⟨_, rfl, by omega, by omega⟩, HW1.out.symm⟩
  case rest =>
    obtain ⟨⟨k, rfl, hk0, hk1⟩, hw⟩ := hcut
    obtain rfl := hw.symm
    clear hq hr0 hr1
    rcases (show k = 0 ∨ k = 1 ∨ k = 2 ∨ k = 3 ∨ k = 4 ∨ k = 5 ∨ k = 6 ∨ k = 7 ∨ k = 8 ∨ k = 9 ∨ k = 10 ∨ k = 11 ∨ k = 12 by omega) with rfl | rfl | rfl | rfl | rfl | rfl | rfl | rfl | rfl | rfl | rfl | rfl | rfl
    · obtain ⟨c1, c2, c3, c4⟩ := HB.out
      have h1 : ∀ W, Pair w0 W b r n m d d → Calls Try.prog 12 #[.pointer (some ⟨b, 0, none⟩), .string nme, .string txt] W fun e w' => e = .returned (.int .i64 ((fun x => DM.append x (nm nme) txt) d).1) ∧ Pair w0 w' b r (n + 2) m ((fun x => DM.append x (nm nme) txt) d).2 d ∧ Keep W w' := fun W p => p.call (fun mo hd => append_any W b n mo d hd (by omega) nme txt HNM.out (by have := HU.out; have := HT1.out.1; omega))
      have h2 : ∀ W x, Pair w0 W b r (n + 2) m x d → Calls Try.prog 46 #[.pointer (some ⟨r, 0, none⟩), .string nme, .string txt] W fun e w' => e = .returned (.int .i64 ((fun x => DM.append x (nm nme) txt) d).1) ∧ Pair w0 w' b r (n + 2) (m + 2) x ((fun x => DM.append x (nm nme) txt) d).2 ∧ Keep W w' := fun W x p => p.rcall (fun v hr hB => rappend_any W _ r m v d hr (by omega) hB nme txt HNM.out (by have := HU.out; have := HT1.out.1; omega))
      have H1 := Lib.hid h1
      have H2 := Lib.hid h2
      obtain ⟨R, hR⟩ : ∃ R, R = (fun x => DM.append x (nm nme) txt) d := ⟨_, rfl⟩
      rw [← hR] at H1 H2
      have HR := Lib.hid hR
      clear h1 h2 hR
      go_wp2_with fail
      go_region_held3 (fun W => W.cell? ⟨w.heap.size, 1, none⟩ = some (.int .i64 N) ∧ W.cell? ⟨w.heap.size, 2, none⟩ = some (.string nme) ∧ W.cell? ⟨w.heap.size, 3, none⟩ = some (.string txt)) (first | exact ⟨c1, c2, c3⟩ | exact ⟨u1, u2, u3⟩ | exact ⟨v1, v2, v3⟩)
        (first
          | (go_at_call 12; refine (H1.out _ HPD.out).mono ?_; rintro e w2 ⟨rfl, p2, k2⟩; obtain ⟨u1, u2, u3⟩ := HCL.out w2 k2)
          | (go_at_call 46; refine (H2.out _ _ p2).mono ?_; rintro e w3 ⟨rfl, p3, k3⟩; obtain ⟨v1, v2, v3⟩ := HCL.out w3 (k2.trans k3)))
      all_goals
        go_wp2_with fail
        go_ret
        exact ⟨ret_bool (by simp), _, p3, HKE.out _ (k2.trans k3), fun u hg => by rw [HR.out]; exact (hg.append (nm nme) txt).mono (by have := HT1.out.1; omega)⟩
    · obtain ⟨c1, c2, c3, c4⟩ := HB.out
      have h1 : ∀ W, Pair w0 W b r n m d d → Calls Try.prog 12 #[.pointer (some ⟨b, 0, none⟩), .string nme, .string txt] W fun e w' => e = .returned (.int .i64 ((fun x => DM.append x (nm nme) txt) d).1) ∧ Pair w0 w' b r (n + 2) m ((fun x => DM.append x (nm nme) txt) d).2 d ∧ Keep W w' := fun W p => p.call (fun mo hd => append_any W b n mo d hd (by omega) nme txt HNM.out (by have := HU.out; have := HT1.out.1; omega))
      have h2 : ∀ W x, Pair w0 W b r (n + 2) m x d → Calls Try.prog 46 #[.pointer (some ⟨r, 0, none⟩), .string nme, .string txt] W fun e w' => e = .returned (.int .i64 ((fun x => DM.append x (nm nme) txt) d).1) ∧ Pair w0 w' b r (n + 2) (m + 2) x ((fun x => DM.append x (nm nme) txt) d).2 ∧ Keep W w' := fun W x p => p.rcall (fun v hr hB => rappend_any W _ r m v d hr (by omega) hB nme txt HNM.out (by have := HU.out; have := HT1.out.1; omega))
      have H1 := Lib.hid h1
      have H2 := Lib.hid h2
      obtain ⟨R, hR⟩ : ∃ R, R = (fun x => DM.append x (nm nme) txt) d := ⟨_, rfl⟩
      rw [← hR] at H1 H2
      have HR := Lib.hid hR
      clear h1 h2 hR
      go_wp2_with fail
      go_region_held3 (fun W => W.cell? ⟨w.heap.size, 1, none⟩ = some (.int .i64 N) ∧ W.cell? ⟨w.heap.size, 2, none⟩ = some (.string nme) ∧ W.cell? ⟨w.heap.size, 3, none⟩ = some (.string txt)) (first | exact ⟨c1, c2, c3⟩ | exact ⟨u1, u2, u3⟩ | exact ⟨v1, v2, v3⟩)
        (first
          | (go_at_call 12; refine (H1.out _ HPD.out).mono ?_; rintro e w2 ⟨rfl, p2, k2⟩; obtain ⟨u1, u2, u3⟩ := HCL.out w2 k2)
          | (go_at_call 46; refine (H2.out _ _ p2).mono ?_; rintro e w3 ⟨rfl, p3, k3⟩; obtain ⟨v1, v2, v3⟩ := HCL.out w3 (k2.trans k3)))
      all_goals
        go_wp2_with fail
        go_ret
        exact ⟨ret_bool (by simp), _, p3, HKE.out _ (k2.trans k3), fun u hg => by rw [HR.out]; exact (hg.append (nm nme) txt).mono (by have := HT1.out.1; omega)⟩
    · obtain ⟨c1, c2, c3, c4⟩ := HB.out
      have h1 : ∀ W, Pair w0 W b r n m d d → Calls Try.prog 12 #[.pointer (some ⟨b, 0, none⟩), .string nme, .string txt] W fun e w' => e = .returned (.int .i64 ((fun x => DM.append x (nm nme) txt) d).1) ∧ Pair w0 w' b r (n + 2) m ((fun x => DM.append x (nm nme) txt) d).2 d ∧ Keep W w' := fun W p => p.call (fun mo hd => append_any W b n mo d hd (by omega) nme txt HNM.out (by have := HU.out; have := HT1.out.1; omega))
      have h2 : ∀ W x, Pair w0 W b r (n + 2) m x d → Calls Try.prog 46 #[.pointer (some ⟨r, 0, none⟩), .string nme, .string txt] W fun e w' => e = .returned (.int .i64 ((fun x => DM.append x (nm nme) txt) d).1) ∧ Pair w0 w' b r (n + 2) (m + 2) x ((fun x => DM.append x (nm nme) txt) d).2 ∧ Keep W w' := fun W x p => p.rcall (fun v hr hB => rappend_any W _ r m v d hr (by omega) hB nme txt HNM.out (by have := HU.out; have := HT1.out.1; omega))
      have H1 := Lib.hid h1
      have H2 := Lib.hid h2
      obtain ⟨R, hR⟩ : ∃ R, R = (fun x => DM.append x (nm nme) txt) d := ⟨_, rfl⟩
      rw [← hR] at H1 H2
      have HR := Lib.hid hR
      clear h1 h2 hR
      go_wp2_with fail
      go_region_held3 (fun W => W.cell? ⟨w.heap.size, 1, none⟩ = some (.int .i64 N) ∧ W.cell? ⟨w.heap.size, 2, none⟩ = some (.string nme) ∧ W.cell? ⟨w.heap.size, 3, none⟩ = some (.string txt)) (first | exact ⟨c1, c2, c3⟩ | exact ⟨u1, u2, u3⟩ | exact ⟨v1, v2, v3⟩)
        (first
          | (go_at_call 12; refine (H1.out _ HPD.out).mono ?_; rintro e w2 ⟨rfl, p2, k2⟩; obtain ⟨u1, u2, u3⟩ := HCL.out w2 k2)
          | (go_at_call 46; refine (H2.out _ _ p2).mono ?_; rintro e w3 ⟨rfl, p3, k3⟩; obtain ⟨v1, v2, v3⟩ := HCL.out w3 (k2.trans k3)))
      all_goals
        go_wp2_with fail
        go_ret
        exact ⟨ret_bool (by simp), _, p3, HKE.out _ (k2.trans k3), fun u hg => by rw [HR.out]; exact (hg.append (nm nme) txt).mono (by have := HT1.out.1; omega)⟩
    · obtain ⟨c1, c2, c3, c4⟩ := HB.out
      have h1 : ∀ W, Pair w0 W b r n m d d → Calls Try.prog 13 #[.pointer (some ⟨b, 0, none⟩), .string nme] W fun e w' => e = .returned (.int .i64 ((fun x => DM.sync x (nm nme)) d).1) ∧ Pair w0 w' b r (n + 2) m ((fun x => DM.sync x (nm nme)) d).2 d ∧ Keep W w' := fun W p => p.call (fun mo hd => sync_any W b n mo d hd (by omega) nme HNM.out)
      have h2 : ∀ W x, Pair w0 W b r (n + 2) m x d → Calls Try.prog 40 #[.pointer (some ⟨r, 0, none⟩), .string nme] W fun e w' => e = .returned (.int .i64 ((fun x => DM.sync x (nm nme)) d).1) ∧ Pair w0 w' b r (n + 2) (m + 2) x ((fun x => DM.sync x (nm nme)) d).2 ∧ Keep W w' := fun W x p => p.rcall (fun v hr hB => rsync_any W _ r m v d hr (by omega) hB nme HNM.out)
      have H1 := Lib.hid h1
      have H2 := Lib.hid h2
      obtain ⟨R, hR⟩ : ∃ R, R = (fun x => DM.sync x (nm nme)) d := ⟨_, rfl⟩
      rw [← hR] at H1 H2
      have HR := Lib.hid hR
      clear h1 h2 hR
      go_wp2_with fail
      go_region_held3 (fun W => W.cell? ⟨w.heap.size, 1, none⟩ = some (.int .i64 N) ∧ W.cell? ⟨w.heap.size, 2, none⟩ = some (.string nme) ∧ W.cell? ⟨w.heap.size, 3, none⟩ = some (.string txt)) (first | exact ⟨c1, c2, c3⟩ | exact ⟨u1, u2, u3⟩ | exact ⟨v1, v2, v3⟩)
        (first
          | (go_at_call 13; refine (H1.out _ HPD.out).mono ?_; rintro e w2 ⟨rfl, p2, k2⟩; obtain ⟨u1, u2, u3⟩ := HCL.out w2 k2)
          | (go_at_call 40; refine (H2.out _ _ p2).mono ?_; rintro e w3 ⟨rfl, p3, k3⟩; obtain ⟨v1, v2, v3⟩ := HCL.out w3 (k2.trans k3)))
      all_goals
        go_wp2_with fail
        go_ret
        exact ⟨ret_bool (by simp), _, p3, HKE.out _ (k2.trans k3), fun u hg => by rw [HR.out]; exact (hg.sync (nm nme)).mono (by omega)⟩
    · obtain ⟨c1, c2, c3, c4⟩ := HB.out
      have h1 : ∀ W, Pair w0 W b r n m d d → Calls Try.prog 21 #[.pointer (some ⟨b, 0, none⟩), .string nme, .string txt] W fun e w' => e = .returned (.int .i64 ((fun x => DM.rename x (nm nme) (nm txt)) d).1) ∧ Pair w0 w' b r (n + 2) m ((fun x => DM.rename x (nm nme) (nm txt)) d).2 d ∧ Keep W w' := fun W p => p.call (fun mo hd => rename_any W b n mo d hd (by omega) nme txt HNM.out HT1.out.2)
      have h2 : ∀ W x, Pair w0 W b r (n + 2) m x d → Calls Try.prog 41 #[.pointer (some ⟨r, 0, none⟩), .string nme, .string txt] W fun e w' => e = .returned (.int .i64 ((fun x => DM.rename x (nm nme) (nm txt)) d).1) ∧ Pair w0 w' b r (n + 2) (m + 2) x ((fun x => DM.rename x (nm nme) (nm txt)) d).2 ∧ Keep W w' := fun W x p => p.rcall (fun v hr hB => rrename_any W _ r m v d hr (by omega) hB nme txt HNM.out HT1.out.2)
      have H1 := Lib.hid h1
      have H2 := Lib.hid h2
      obtain ⟨R, hR⟩ : ∃ R, R = (fun x => DM.rename x (nm nme) (nm txt)) d := ⟨_, rfl⟩
      rw [← hR] at H1 H2
      have HR := Lib.hid hR
      clear h1 h2 hR
      go_wp2_with fail
      go_region_held3 (fun W => W.cell? ⟨w.heap.size, 1, none⟩ = some (.int .i64 N) ∧ W.cell? ⟨w.heap.size, 2, none⟩ = some (.string nme) ∧ W.cell? ⟨w.heap.size, 3, none⟩ = some (.string txt)) (first | exact ⟨c1, c2, c3⟩ | exact ⟨u1, u2, u3⟩ | exact ⟨v1, v2, v3⟩)
        (first
          | (go_at_call 21; refine (H1.out _ HPD.out).mono ?_; rintro e w2 ⟨rfl, p2, k2⟩; obtain ⟨u1, u2, u3⟩ := HCL.out w2 k2)
          | (go_at_call 41; refine (H2.out _ _ p2).mono ?_; rintro e w3 ⟨rfl, p3, k3⟩; obtain ⟨v1, v2, v3⟩ := HCL.out w3 (k2.trans k3)))
      all_goals
        go_wp2_with fail
        go_ret
        exact ⟨ret_bool (by simp), _, p3, HKE.out _ (k2.trans k3), fun u hg => by rw [HR.out]; exact (hg.rename (nm nme) (nm txt)).mono (by omega)⟩
    · obtain ⟨c1, c2, c3, c4⟩ := HB.out
      have h1 : ∀ W, Pair w0 W b r n m d d → Calls Try.prog 29 #[.pointer (some ⟨b, 0, none⟩), .string nme] W fun e w' => e = .returned (.int .i64 ((fun x => DM.remove x (nm nme)) d).1) ∧ Pair w0 w' b r (n + 2) m ((fun x => DM.remove x (nm nme)) d).2 d ∧ Keep W w' := fun W p => p.call (fun mo hd => remove_any W b n mo d hd (by omega) nme HNM.out)
      have h2 : ∀ W x, Pair w0 W b r (n + 2) m x d → Calls Try.prog 42 #[.pointer (some ⟨r, 0, none⟩), .string nme] W fun e w' => e = .returned (.int .i64 ((fun x => DM.remove x (nm nme)) d).1) ∧ Pair w0 w' b r (n + 2) (m + 2) x ((fun x => DM.remove x (nm nme)) d).2 ∧ Keep W w' := fun W x p => p.rcall (fun v hr hB => rremove_any W _ r m v d hr (by omega) hB nme HNM.out)
      have H1 := Lib.hid h1
      have H2 := Lib.hid h2
      obtain ⟨R, hR⟩ : ∃ R, R = (fun x => DM.remove x (nm nme)) d := ⟨_, rfl⟩
      rw [← hR] at H1 H2
      have HR := Lib.hid hR
      clear h1 h2 hR
      go_wp2_with fail
      go_region_held3 (fun W => W.cell? ⟨w.heap.size, 1, none⟩ = some (.int .i64 N) ∧ W.cell? ⟨w.heap.size, 2, none⟩ = some (.string nme) ∧ W.cell? ⟨w.heap.size, 3, none⟩ = some (.string txt)) (first | exact ⟨c1, c2, c3⟩ | exact ⟨u1, u2, u3⟩ | exact ⟨v1, v2, v3⟩)
        (first
          | (go_at_call 29; refine (H1.out _ HPD.out).mono ?_; rintro e w2 ⟨rfl, p2, k2⟩; obtain ⟨u1, u2, u3⟩ := HCL.out w2 k2)
          | (go_at_call 42; refine (H2.out _ _ p2).mono ?_; rintro e w3 ⟨rfl, p3, k3⟩; obtain ⟨v1, v2, v3⟩ := HCL.out w3 (k2.trans k3)))
      all_goals
        go_wp2_with fail
        go_ret
        exact ⟨ret_bool (by simp), _, p3, HKE.out _ (k2.trans k3), fun u hg => by rw [HR.out]; exact (hg.remove (nm nme)).mono (by omega)⟩
    · have hcr : ∀ W, Pair w0 W b r n m d d → Calls Try.prog 15 #[.pointer (some ⟨b, 0, none⟩), .slice a0 l0 c0] W fun e w' => e = .returned (.tuple #[]) ∧ Pair w0 w' b r n m (DM.crash d ps) d ∧ Keep W w' := fun W p => p.crash (by omega) HPS.out
      have hcr2 : ∀ W, Pair w0 W b r n m (DM.crash d ps) d → Calls Try.prog 28 #[.pointer (some ⟨r, 0, none⟩), .slice a0 l0 c0] W fun e w' => e = .returned (.tuple #[]) ∧ Pair w0 w' b r n m (DM.crash d ps) (DM.crash d ps) ∧ Keep W w' := fun W p => p.rcrash (by omega) HPS.out
      have H1 := Lib.hid hcr
      have H2 := Lib.hid hcr2
      have c4 := HB.out.2.2.2
      clear hcr hcr2
      go_wp2_with fail
      refine (H1.out _ HP.out).mono ?_
      rintro e w2 ⟨rfl, p2, k2⟩
      have d4 : w2.cell? ⟨w.heap.size, 4, none⟩ = some (.slice a0 l0 c0) := (k2 _ _ _ HX.out (by decide) (by decide) (by decide)).cell 4
      clear c4
      go_wp2_with fail
      refine (H2.out _ p2).mono ?_
      rintro e w3 ⟨rfl, p3, k3⟩
      go_wp2_with fail
      go_ret
      exact ⟨rfl, _, p3.more, (Keep.quiet HTX.out).trans (k2.trans k3), fun u hg => (hg.crash ps).mono (by omega)⟩
    · have c1 := HB.out.1
      go_wp2_with fail
      refine (HP.out.arm N).mono ?_
      rintro e w2 ⟨rfl, p2, k2⟩
      have d4 : w2.cell? ⟨w.heap.size, 1, none⟩ = some (.int .i64 N) := (k2 _ _ _ HX.out (by decide) (by decide) (by decide)).cell 1
      clear c1
      go_wp2_with fail
      refine (p2.rarm N HN.out).mono ?_
      rintro e w3 ⟨rfl, p3, k3⟩
      go_wp2_with fail
      go_ret
      exact ⟨rfl, _, p3.more, (Keep.quiet HTX.out).trans (k2.trans k3), fun u hg => (hg.same (d' := DM.arm d N) rfl).mono (by omega)⟩
    · have c1 := HB.out.1
      go_wp2_with fail
      refine (HP.out.limit N HN.out).mono ?_
      rintro e w2 ⟨rfl, p2, k2⟩
      have hb2 := k2 _ _ _ HX.out (by decide) (by decide) (by decide)
      have d1 : w2.cell? ⟨w.heap.size, 1, none⟩ = some (.int .i64 N) := hb2.cell 1
      obtain ⟨⟨x9, r0⟩, f0, hpos, hneg⟩ := p2.room N HN.out
      have hne : w.heap.size ≠ r := by
        obtain ⟨mo, v, hd, hr, _⟩ := p2
        obtain ⟨_, _, hrb, _⟩ := hr.blk
        exact hb2.ne_type hrb (by decide)
      have e1 : (w2.setCell ⟨r, 0, none⟩ (.int .i64 N)).cell? ⟨w.heap.size, 1, none⟩ = some (.int .i64 N) := (hb2.far (p := ⟨r, 0, none⟩) hne _).cell 1
      have HPOS := Lib.hid hpos
      have HNEG := Lib.hid hneg
      clear c1 hpos hneg
      by_cases hN0 : N < 0
      · obtain ⟨g0, g1, p3, k3⟩ := HNEG.out hN0
        go_wp2_with fail
        go_ret
        exact ⟨rfl, _, p3.more, (Keep.quiet HTX.out).trans (k2.trans k3), fun u hg => (hg.same (d' := DM.limit d N) rfl).mono (by omega)⟩
      · obtain ⟨p3, k3⟩ := HPOS.out (by omega)
        go_wp2_with fail
        go_ret
        exact ⟨rfl, _, p3.more, (Keep.quiet HTX.out).trans (k2.trans k3), fun u hg => (hg.same (d' := DM.limit d N) rfl).mono (by omega)⟩
    · go_wp2_with fail
      go_ret
      exact ⟨rfl, _, HP.out.more, Keep.quiet HTX.out, fun u hg => hg.mono (by omega)⟩
    · have c2 := HB.out.2.1
      obtain ⟨R, hR⟩ : ∃ R, R = DM.read d (nm nme) := ⟨_, rfl⟩
      have h1 : ∀ W, Pair w0 W b r n m d d → Calls Try.prog 14 #[.pointer (some ⟨b, 0, none⟩), .string nme] W fun e w' => e = .returned (.tuple #[.string R.1, .int .i64 R.2]) ∧ Pair w0 w' b r n m d d ∧ Keep W w' := fun W p => by rw [hR]; exact p.read nme HNM.out
      have h2 : ∀ W, Pair w0 W b r n m d d → Calls Try.prog 45 #[.pointer (some ⟨r, 0, none⟩), .string nme] W fun e w' => e = .returned (.tuple #[.string R.1, .int .i64 R.2]) ∧ Pair w0 w' b r n m d d ∧ Keep W w' := fun W p => by rw [hR]; exact p.rread (by omega) nme HNM.out
      have H1 := Lib.hid h1
      have H2 := Lib.hid h2
      clear h1 h2 hR
      go_wp2_with fail
      refine (H1.out _ HP.out).mono ?_
      rintro e w2 ⟨rfl, p2, k2⟩
      have d4 : w2.cell? ⟨w.heap.size, 2, none⟩ = some (.string nme) := (k2 _ _ _ HX.out (by decide) (by decide) (by decide)).cell 2
      clear c2
      go_wp2_with fail
      refine (H2.out _ p2).mono ?_
      rintro e w3 ⟨rfl, p3, k3⟩
      go_wp2_with fail
      go_ret
      exact ⟨ret_bool (by simp), _, p3.more, (Keep.quiet HTX.out).trans (k2.trans k3), fun u hg => hg.mono (by omega)⟩
    · have c2 := HB.out.2.1
      obtain ⟨R, hR⟩ : ∃ R, R = DM.read d (nm nme) := ⟨_, rfl⟩
      have h1 : ∀ W, Pair w0 W b r n m d d → Calls Try.prog 14 #[.pointer (some ⟨b, 0, none⟩), .string nme] W fun e w' => e = .returned (.tuple #[.string R.1, .int .i64 R.2]) ∧ Pair w0 w' b r n m d d ∧ Keep W w' := fun W p => by rw [hR]; exact p.read nme HNM.out
      have h2 : ∀ W, Pair w0 W b r n m d d → Calls Try.prog 45 #[.pointer (some ⟨r, 0, none⟩), .string nme] W fun e w' => e = .returned (.tuple #[.string R.1, .int .i64 R.2]) ∧ Pair w0 w' b r n m d d ∧ Keep W w' := fun W p => by rw [hR]; exact p.rread (by omega) nme HNM.out
      have H1 := Lib.hid h1
      have H2 := Lib.hid h2
      clear h1 h2 hR
      go_wp2_with fail
      refine (H1.out _ HP.out).mono ?_
      rintro e w2 ⟨rfl, p2, k2⟩
      have d4 : w2.cell? ⟨w.heap.size, 2, none⟩ = some (.string nme) := (k2 _ _ _ HX.out (by decide) (by decide) (by decide)).cell 2
      clear c2
      go_wp2_with fail
      refine (H2.out _ p2).mono ?_
      rintro e w3 ⟨rfl, p3, k3⟩
      go_wp2_with fail
      go_ret
      exact ⟨ret_bool (by simp), _, p3.more, (Keep.quiet HTX.out).trans (k2.trans k3), fun u hg => hg.mono (by omega)⟩
    · obtain ⟨c1, c2, c3, c4⟩ := HB.out
      have h1 : ∀ W, Pair w0 W b r n m d d → Calls Try.prog 30 #[.pointer (some ⟨b, 0, none⟩), .string nme, .int .i64 N] W fun e w' => e = .returned (.int .i64 ((fun x => DM.cut x (nm nme) N) d).1) ∧ Pair w0 w' b r (n + 2) m ((fun x => DM.cut x (nm nme) N) d).2 d ∧ Keep W w' := fun W p => p.call (fun mo hd => cut_any W b n mo d hd (by omega) nme HNM.out N HN.out)
      have h2 : ∀ W x, Pair w0 W b r (n + 2) m x d → Calls Try.prog 44 #[.pointer (some ⟨r, 0, none⟩), .string nme, .int .i64 N] W fun e w' => e = .returned (.int .i64 ((fun x => DM.cut x (nm nme) N) d).1) ∧ Pair w0 w' b r (n + 2) (m + 2) x ((fun x => DM.cut x (nm nme) N) d).2 ∧ Keep W w' := fun W x p => p.rcall (fun v hr hB => rcut_any W _ r m v d hr (by omega) hB nme HNM.out N)
      have H1 := Lib.hid h1
      have H2 := Lib.hid h2
      obtain ⟨R, hR⟩ : ∃ R, R = (fun x => DM.cut x (nm nme) N) d := ⟨_, rfl⟩
      rw [← hR] at H1 H2
      have HR := Lib.hid hR
      clear h1 h2 hR
      go_wp2_with fail
      go_region_held3 (fun W => W.cell? ⟨w.heap.size, 1, none⟩ = some (.int .i64 N) ∧ W.cell? ⟨w.heap.size, 2, none⟩ = some (.string nme) ∧ W.cell? ⟨w.heap.size, 3, none⟩ = some (.string txt)) (first | exact ⟨c1, c2, c3⟩ | exact ⟨u1, u2, u3⟩ | exact ⟨v1, v2, v3⟩)
        (first
          | (go_at_call 30; refine (H1.out _ HPD.out).mono ?_; rintro e w2 ⟨rfl, p2, k2⟩; obtain ⟨u1, u2, u3⟩ := HCL.out w2 k2)
          | (go_at_call 44; refine (H2.out _ _ p2).mono ?_; rintro e w3 ⟨rfl, p3, k3⟩; obtain ⟨v1, v2, v3⟩ := HCL.out w3 (k2.trans k3)))
      all_goals
        go_wp2_with fail
        go_ret
        exact ⟨ret_bool (by simp), _, p3, HKE.out _ (k2.trans k3), fun u hg => by rw [HR.out]; exact (hg.cut (nm nme) N).mono (by omega)⟩
end Go.Proofs.Ytaemebchblhpcaa

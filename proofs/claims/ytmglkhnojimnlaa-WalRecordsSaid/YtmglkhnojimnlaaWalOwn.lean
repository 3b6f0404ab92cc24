/- A log of the call's own. -/
import Derived.Test.YtmglkhnojimnlaaWal11
namespace Go.Proofs.Ytmglkhnojimnlaa
open Go.RowKit Go.Maps

theorem Own.keepF {w0 w : World} {b n : Nat} {d : DM.D} (h : Own w0 w b n d) : ∃ S, DiskF w S b n d ∧ New w0 S ∧ Touch [] w0 w := by
  obtain ⟨mo, hd, T, hb, hm⟩ := h
  exact ⟨_, ⟨mo, hd, rfl⟩, fun k hk => by
    rcases List.mem_cons.1 hk with rfl | hk
    · exact hb
    · exact hm k (by simpa using hk), T⟩
theorem DiskF.own {w0 w : World} {S : List Nat} {b n : Nat} {d : DM.D} (h : DiskF w S b n d) (hn : New w0 S) (T : Touch [] w0 w) : Own w0 w b n d := by
  obtain ⟨mo, hd, rfl⟩ := h
  exact ⟨mo, hd, T, hn b (by simp), fun m hm => hn m (by simp [hm])⟩
/-- a log of the call's own -/
def OwnW (w0 w : World) (g b n : Nat) (x : LM.L) : Prop := ∃ S D sv, WalAt w S D sv g b n x ∧ New w0 S ∧ Touch [] w0 w
theorem OwnW.T {w0 w : World} {g b n : Nat} {x : LM.L} (h : OwnW w0 w g b n x) : Touch [] w0 w := by
  obtain ⟨S, D, sv, h1, h2, h3⟩ := h
  exact h3
theorem OwnW.touch {w0 w w' : World} {g b n : Nat} {x : LM.L} (h : OwnW w0 w g b n x) (ht : Touch [] w w') : OwnW w0 w' g b n x := by
  obtain ⟨S, D, sv, h1, h2, h3⟩ := h
  exact ⟨S, D, sv, h1.quiet ht, h2, h3.trans ht (by simp)⟩
theorem OwnW.own {w0 w : World} {g b n : Nat} {x : LM.L} (h : OwnW w0 w g b n x) : Own w0 w b n x.d := by
  obtain ⟨S, D, sv, h1, h2, h3⟩ := h
  exact h1.disk.own (fun k hk => h2 k (by rw [h1.foot]; simp [hk])) h3
theorem OwnW.small {w0 w : World} {g b n : Nat} {x : LM.L} (h : OwnW w0 w g b n x) : (WM.all x.l).length ≤ 1099511627776 := by
  obtain ⟨S, D, sv, h1, h2, h3⟩ := h
  exact h1.small
def OEnds (w0 : World) (g b n : Nat) (w : World) (r : Int × LM.L) (e : Ending) (w' : World) : Prop := e = .returned (.int .i64 r.1) ∧ OwnW w0 w' g b n r.2 ∧ KeepBut walTs w w'
theorem WEnds.own {w0 w w' : World} {S D : List Nat} {sv : Value} {g b n m : Nat} {x : LM.L} {r : Int × LM.L} {e : Ending} (h : WalAt w S D sv g b m x) (hn : New w0 S) (T : Touch [] w0 w) (he : WEnds S g b n w r e w') : OEnds w0 g b n w r e w' := by
  obtain ⟨rfl, S', D', sv', h1, h2, h3⟩ := he
  exact ⟨rfl, ⟨S', D', sv', h1, hn.fresh h3 T.size, hn.touch T h2⟩, KeepBut.of h.foots h2⟩
section
variable {w0 w : World} {g b n : Nat} {x : LM.L}
theorem oappend (h : OwnW w0 w g b n x) (hn : n < 1099511627775) (a : Option Addr) (cap : Nat) (ss : List ByteArray) (hT : TextsB w a ss)
    (hf : WM.Fits (ss.map bs)) (hsm : (WM.all (x.l ++ ss.map bs)).length ≤ 1099511627776) (hu : DM.used x.d.fl + (WM.all (ss.map bs)).length ≤ 1099511627776) :
    Calls Try.prog 22 #[.pointer (some ⟨g, 0, none⟩), .slice a ss.length cap] w (OEnds w0 g b (n + 2) w (LM.append x (ss.map bs))) := by
  obtain ⟨S, D, sv, h1, h2, h3⟩ := h
  exact (wappend_any h1 hn a cap ss hT hf hsm hu).mono fun e w' he => he.own h1 h2 h3
theorem osync (h : OwnW w0 w g b n x) (hn : n < 1099511627775) :
    Calls Try.prog 20 #[.pointer (some ⟨g, 0, none⟩)] w (OEnds w0 g b (n + 2) w (LM.sync x)) := by
  obtain ⟨S, D, sv, h1, h2, h3⟩ := h
  exact (wsync_any h1 hn).mono fun e w' he => he.own h1 h2 h3
theorem orewrite (h : OwnW w0 w g b n x) (hn : n < 1099511627700) (a : Option Addr) (cap : Nat) (ss : List ByteArray) (hT : TextsB w a ss)
    (hf : WM.Fits (ss.map bs)) (hsm : (WM.all (ss.map bs)).length ≤ 1099511627776) (hu : DM.used x.d.fl + (WM.all (ss.map bs)).length ≤ 1099511627776) :
    Calls Try.prog 21 #[.pointer (some ⟨g, 0, none⟩), .slice a ss.length cap] w (OEnds w0 g b (n + 8) w (LM.rewrite x (ss.map bs))) := by
  obtain ⟨S, D, sv, h1, h2, h3⟩ := h
  exact (wrewrite_any h1 hn a cap ss hT hf hsm hu).mono fun e w' he => he.own h1 h2 h3
theorem ofirm (h : OwnW w0 w g b n x) : Calls Try.prog 26 #[.pointer (some ⟨g, 0, none⟩)] w fun e w' => e = .returned (.int .i64 (x.firm : Int)) ∧ w' = w := by
  obtain ⟨S, D, sv, h1, h2, h3⟩ := h
  exact wfirm_any h1
theorem oarm (h : OwnW w0 w g b n x) (k : Int) :
    Calls Try.prog 19 #[.pointer (some ⟨b, 0, none⟩), .int .i64 k] w fun e w' => e = .returned (.tuple #[]) ∧ OwnW w0 w' g b n { x with d := DM.arm x.d k } ∧ KeepBut walTs w w' := by
  obtain ⟨S, D, sv, h1, h2, h3⟩ := h
  refine (darm h1.disk k).mono ?_
  rintro e w' ⟨rfl, hd, ht⟩
  have hD : ∀ k ∈ D, k ∈ S := fun k hk => by rw [h1.foot]; simp [hk]
  have hS := h1.foot
  refine ⟨rfl, ⟨_, D, sv, h1.turn hd ht, ?_, h2.touch h3 (ht.mono (fun k hk => .inl (hD k hk)))⟩, KeepBut.of h1.foots (ht.mono (fun k hk => .inl (hD k hk)))⟩
  rw [← hS]
  exact h2
theorem oon (h : OwnW w0 w g b n x) :
    Calls Try.prog 23 #[.pointer (some ⟨b, 0, none⟩)] w fun e w' => e = .returned (.bool (!x.d.off)) ∧ w' = w := on_own h.own
end
/-- a crash, picks that came in -/
theorem ocrash {w0 w : World} {b n : Nat} {d : DM.D} (h : Own w0 w b n d) (hn : n < 1099511627776) (a0 : Option Addr) (l0 c0 : Nat) (ps : List Int) (hp : Picks w0 (.slice a0 l0 c0) ps) :
    Calls Try.prog 24 #[.pointer (some ⟨b, 0, none⟩), .slice a0 l0 c0] w fun e w' => e = .returned (.tuple #[]) ∧ Own w0 w' b n (DM.crash d ps) ∧ KeepBut walTs w w' := by
  obtain ⟨S, hdf, hnew, _⟩ := h.keepF
  obtain ⟨mo, hd, T, hb, hm⟩ := h
  have hps : PicksAt (w.heap.size :: b :: mo.toList) w (.slice a0 l0 c0) ps := (hp _ (fun k hk => by
    rcases List.mem_cons.1 hk with rfl | hk
    · exact T.size
    · rcases List.mem_cons.1 hk with rfl | hk
      · exact hb
      · exact hm k (by simpa using hk))).touch (T.mono (by simp))
  refine (crash_any w b n mo d hd hn a0 l0 c0 ps hps).mono ?_
  rintro e w' ⟨rfl, hd', ht, _⟩
  have hf : DiskF w (b :: mo.toList) b n d := ⟨mo, hd, rfl⟩
  have hN : New w0 (b :: mo.toList) := fun k hk => by
    rcases List.mem_cons.1 hk with rfl | hk
    · exact hb
    · exact hm k (by simpa using hk)
  exact ⟨rfl, ⟨mo, hd', hN.touch T ht, hb, hm⟩, KeepBut.of (hf.foot.mono (by simp)) ht⟩
/-- a crash without picks -/
theorem Picks.nil_ (w : World) : Picks w (.slice none 0 0) [] := fun S _ => ⟨none, 0, rfl, Nat.le_refl _, Nat.zero_le _, by simp, fun h => absurd rfl h⟩
/-- how opening a disk of the call's own ends -/
def OBad (w0 : World) (b n : Nat) (w : World) (r : Int × DM.D) (e : Ending) (w' : World) : Prop :=
  e = .returned (.tuple #[.pointer none, .slice none 0 0, .int .i64 r.1]) ∧ Own w0 w' b n r.2 ∧ KeepBut walTs w w'
def OGood (w0 : World) (b n : Nat) (w : World) (r : (Int × DM.D) × List WM.Bs) (e : Ending) (w' : World) : Prop :=
  ∃ g a cap, e = .returned (.tuple #[.pointer (some ⟨g, 0, none⟩), .slice a r.2.length cap, .int .i64 0]) ∧ OwnW w0 w' g b n (LM.start r.1.2 r.2) ∧ TextsB w' a (r.2.map ofBs) ∧ (r.2.length ≤ cap ∧ (a = none → cap = 0)) ∧ cap ≤ maxLen ∧ KeepBut walTs w w'
theorem oopen {w0 w : World} {b n : Nat} {d : DM.D} (h : Own w0 w b n d) (hn : n < 1099511627600) :
    Calls Try.prog 18 #[.pointer (some ⟨b, 0, none⟩)] w fun e w' => ((LM.opened d).1.1 ≠ 0 → OBad w0 b (n + 6) w (LM.opened d).1 e w') ∧ ((LM.opened d).1.1 = 0 → OGood w0 b (n + 6) w (LM.opened d) e w') := by
  obtain ⟨S, hd, hN, T⟩ := h.keepF
  refine (open_any hd hn).mono ?_
  have hfo := hd.foot.mono (ts' := walTs) (by simp)
  rintro e w' (⟨h0, rfl, D', hd', ht, hf⟩ | ⟨h0, g, a, cap, S', D', sv, rfl, hW, htx, hl, hc, ht, hf⟩)
  · exact ⟨fun _ => ⟨rfl, hd'.own (hN.fresh hf T.size) (hN.touch T ht), KeepBut.of hfo ht⟩, fun h => absurd h h0⟩
  · exact ⟨fun h => absurd h0 h, fun _ => ⟨g, a, cap, rfl, ⟨S', D', sv, hW, hN.fresh hf T.size, hN.touch T ht⟩, htx, hl, hc, KeepBut.of hfo ht⟩⟩
theorem oopen_good {w0 w : World} {b n : Nat} {d : DM.D} (h : Own w0 w b n d) (hn : n < 1099511627600) {r : (Int × DM.D) × List WM.Bs} (hr : LM.opened d = r) (h0 : r.1.1 = 0) :
    Calls Try.prog 18 #[.pointer (some ⟨b, 0, none⟩)] w (OGood w0 b (n + 6) w r) := by
  subst hr
  exact (oopen h hn).mono fun e w' he => he.2 h0
theorem onew (w0 w : World) (T : Touch [] w0 w) (r : Int) (hr : (Lit.int .i64 r).wf = true) :
    Calls Try.prog 17 #[.int .i64 r] w fun e w' => e = .returned (.pointer (some ⟨w.heap.size, 0, none⟩)) ∧ Own w0 w' w.heap.size 0 (DM.new r) ∧ Touch [] w w' := by
  refine (new_any r hr w).mono ?_
  rintro e w' ⟨rfl, hd, ht⟩
  exact ⟨rfl, ⟨none, hd, T.trans ht (by simp), T.size, by simp⟩, ht⟩
end Go.Proofs.Ytmglkhnojimnlaa

/- Package wal: Rewrite. -/
import Derived.Test.YtmglkhnojimnlaaGreatWal8
import Derived.StillTailTactics
namespace Go.Proofs.YtmglkhnojimnlaaGreat
open Go.RowKit Go.Maps

/-- the steps of rewriting -/
def rws (d : DM.D) (m : List WM.Bs) : Nat → Int × DM.D
  | 0 => (0, d)
  | 1 => LM.clear d
  | 2 => DM.append (LM.clear d).2 LM.newN (ofBs (WM.all m))
  | 3 => DM.sync (DM.append (LM.clear d).2 LM.newN (ofBs (WM.all m))).2 LM.newN
  | _ => DM.rename (DM.sync (DM.append (LM.clear d).2 LM.newN (ofBs (WM.all m))).2 LM.newN).2 LM.newN LM.walN
theorem rws_end (d : DM.D) (m : List WM.Bs) (i : Nat) (hi : i ≤ 4) (h0 : ∀ j, j < i → (rws d m j).1 = 0) (h : i = 4 ∨ (rws d m i).1 ≠ 0) : LM.rewriteD d m = rws d m i := by
  unfold LM.rewriteD LM.seq
  have e1 : rws d m 1 = LM.clear d := rfl
  have e2 : rws d m 2 = DM.append (rws d m 1).2 LM.newN (ofBs (WM.all m)) := rfl
  have e3 : rws d m 3 = DM.sync (rws d m 2).2 LM.newN := rfl
  have e4 : rws d m 4 = DM.rename (rws d m 3).2 LM.newN LM.walN := rfl
  simp only [← e1]
  match i, hi with
  | 0, _ => rcases h with h | h; exact absurd h (by decide); exact absurd rfl h
  | 1, _ =>
    have h : (rws d m 1).1 ≠ 0 := h.resolve_left (by decide)
    simp only [if_neg h]
  | 2, _ =>
    have h : (rws d m 2).1 ≠ 0 := h.resolve_left (by decide)
    simp only [if_pos (h0 1 (by decide)), ← e2, if_neg h]
  | 3, _ =>
    have h : (rws d m 3).1 ≠ 0 := h.resolve_left (by decide)
    simp only [if_pos (h0 1 (by decide)), ← e2, if_pos (h0 2 (by decide)), ← e3, if_neg h]
  | 4, _ =>
    simp only [if_pos (h0 1 (by decide)), ← e2, if_pos (h0 2 (by decide)), ← e3, if_pos (h0 3 (by decide)), ← e4]
/-- within a rewriting -/
structure RwAt (w0 W : World) (S : List Nat) (sv : Value) (g b m : Nat) (x : LM.L) (d : DM.D) (Bw Bs Bf : Nat) (txt : ByteArray) (fs : Array Value) (D' : List Nat) : Prop where
  wal : WalAt W (g :: (D' ++ sv.ownBlock.toList)) D' sv g b m { x with d := d }
  touch : Touch S w0 W
  fresh : Fresh w0 S (g :: (D' ++ sv.ownBlock.toList))
  bw : Blk W Bw 29 #[.pointer (some ⟨g, 0, none⟩)]
  bs : Blk W Bs 9 #[.string txt]
  bf : Blk W Bf 51 fs
theorem RwAt.step {w0 W W' : World} {S : List Nat} {sv : Value} {g b m : Nat} {x : LM.L} {d : DM.D} {Bw Bs Bf : Nat} {txt : ByteArray} {fs : Array Value} {D' : List Nat} {r : Int × DM.D} {e : Ending}
    (h : RwAt w0 W S sv g b m x d Bw Bs Bf txt fs D') (he : DEnds D' b m W r e W') : e = .returned (.int .i64 r.1) ∧ ∃ D'', RwAt w0 W' S sv g b (m + 2) x r.2 Bw Bs Bf txt fs D'' := by
  obtain ⟨rfl, D'', hd, ht, hf⟩ := he
  obtain ⟨h1, h2, h3⟩ := h.wal.turned (Touch.refl [] W) hd ht hf
  have hfo := h.wal.disk.foot
  exact ⟨rfl, D'', h1, h.touch.trans h2 h.fresh, h.fresh.trans h3 h.touch.size, ht.blk h.bw (hfo.ne h.bw (by decide)), ht.blk h.bs (hfo.ne h.bs (by decide)), ht.blk h.bf (hfo.ne h.bf (by decide))⟩
section
variable {W : World} {g b m : Nat} {Bw Bs : Nat} {txt : ByteArray} {d : DM.D} {D : List Nat}
set_option maxRecDepth 10000 in
theorem rw1_any (hw : Blk W Bw 29 #[.pointer (some ⟨g, 0, none⟩)]) (h0 : W.cell? ⟨g, 0, none⟩ = some (.pointer (some ⟨b, 0, none⟩))) (hd : DiskF W D b m d) (hm : m < 1099511627775) :
    Calls Tryz.prog 54 #[.pointer (some ⟨Bw, 0, none⟩)] W (DEnds D b m W (LM.clear d)) := by
  have k0 := hw.cell 0
  have hc := clear_any hd hm
  have HC := Lib.hid hc
  clear hc hd hw hm
  go_enter Tryz.func54, Tryz.ntmps54
  go_wp2_with fail
  refine HC.out.mono ?_
  intro e w' hd
  have HD := Lib.hid hd
  obtain ⟨rfl, _⟩ := hd
  go_wp2_with fail
  go_ret
  exact HD.out
set_option maxRecDepth 10000 in
theorem rw2_any (hw : Blk W Bw 29 #[.pointer (some ⟨g, 0, none⟩)]) (hs : Blk W Bs 9 #[.string txt]) (h0 : W.cell? ⟨g, 0, none⟩ = some (.pointer (some ⟨b, 0, none⟩))) (hd : DiskF W D b m d) (hm : m < 1099511627775) (hu : DM.used d.fl + txt.size ≤ 1099511627776) :
    Calls Tryz.prog 55 #[.pointer (some ⟨Bw, 0, none⟩), .pointer (some ⟨Bs, 0, none⟩)] W (DEnds D b m W (DM.append d LM.newN txt)) := by
  have k0 := hw.cell 0
  have k1 := hs.cell 0
  have hT : Touch [] W W.drew := Touch.drewN [] W 1
  have hc := dappend (hd.touch hT (by simp)) hm newS txt (by decide) hu
  rw [nm_new] at hc
  have HC := Lib.hid hc
  have HT := Lib.hid hT
  clear hc hd hw hs hm hu hT
  go_enter Tryz.func55, Tryz.ntmps55
  go_wp2_with fail
  go_still_tail 5, (by kernel_rfl)
  change wpList _ _ _ _ _ W.drew
  go_wp2_with fail
  refine HC.out.mono ?_
  intro e w' hd
  have HD := Lib.hid (hd.pre HT.out)
  obtain ⟨rfl, _⟩ := hd
  go_wp2_with fail
  go_ret
  exact HD.out
set_option maxRecDepth 10000 in
theorem rw3_any (hw : Blk W Bw 29 #[.pointer (some ⟨g, 0, none⟩)]) (h0 : W.cell? ⟨g, 0, none⟩ = some (.pointer (some ⟨b, 0, none⟩))) (hd : DiskF W D b m d) (hm : m < 1099511627775) :
    Calls Tryz.prog 56 #[.pointer (some ⟨Bw, 0, none⟩)] W (DEnds D b m W (DM.sync d LM.newN)) := by
  have k0 := hw.cell 0
  have hc := dsync hd hm newS (by decide)
  rw [nm_new] at hc
  have HC := Lib.hid hc
  clear hc hd hw hm
  go_enter Tryz.func56, Tryz.ntmps56
  go_wp2_with fail
  refine HC.out.mono ?_
  intro e w' hd
  have HD := Lib.hid hd
  obtain ⟨rfl, _⟩ := hd
  go_wp2_with fail
  go_ret
  exact HD.out
set_option maxRecDepth 10000 in
theorem rw4_any (hw : Blk W Bw 29 #[.pointer (some ⟨g, 0, none⟩)]) (h0 : W.cell? ⟨g, 0, none⟩ = some (.pointer (some ⟨b, 0, none⟩))) (hd : DiskF W D b m d) (hm : m < 1099511627775) :
    Calls Tryz.prog 57 #[.pointer (some ⟨Bw, 0, none⟩)] W (DEnds D b m W (DM.rename d LM.newN LM.walN)) := by
  have k0 := hw.cell 0
  have hc := drename hd hm newS walS (by decide) (by decide)
  rw [nm_new, nm_wal] at hc
  have HC := Lib.hid hc
  clear hc hd hw hm
  go_enter Tryz.func57, Tryz.ntmps57
  go_wp2_with fail
  refine HC.out.mono ?_
  intro e w' hd
  have HD := Lib.hid hd
  obtain ⟨rfl, _⟩ := hd
  go_wp2_with fail
  go_ret
  exact HD.out
end
def rwFs (Bw Bs : Nat) : List (Nat × Array Value) := [(54, #[.pointer (some ⟨Bw, 0, none⟩)]), (55, #[.pointer (some ⟨Bw, 0, none⟩), .pointer (some ⟨Bs, 0, none⟩)]), (56, #[.pointer (some ⟨Bw, 0, none⟩)]), (57, #[.pointer (some ⟨Bw, 0, none⟩)])]
def rwVs (Bw Bs : Nat) : Array Value := #[.func (.func 54) #[] #[.pointer (some ⟨Bw, 0, none⟩)], .func (.func 55) #[] #[.pointer (some ⟨Bw, 0, none⟩), .pointer (some ⟨Bs, 0, none⟩)], .func (.func 56) #[] #[.pointer (some ⟨Bw, 0, none⟩)], .func (.func 57) #[] #[.pointer (some ⟨Bw, 0, none⟩)]]
set_option maxRecDepth 10000 in
/-- all steps of a rewriting -/
theorem rwRow_any {w0 W : World} {S D : List Nat} {sv : Value} {g b n : Nat} {x : LM.L} {Bw Bs Bf : Nat} {ms : List WM.Bs} (hn : n < 1099511627700) (hu : DM.used x.d.fl + (WM.all ms).length ≤ 1099511627776)
    (hcl : DM.used (LM.clear x.d).2.fl ≤ DM.used x.d.fl)
    (h : RwAt w0 W S sv g b n x x.d Bw Bs Bf (ofBs (WM.all ms)) (rwVs Bw Bs) D) (cap : Nat) :
    Calls Tryz.prog 43 #[.slice (some ⟨Bf, 0, none⟩) 4 cap] W (RowEnd fun k W' => k = (LM.rewriteD x.d ms).1 ∧ ∃ D', RwAt w0 W' S sv g b (n + 8) x (LM.rewriteD x.d ms).2 Bw Bs Bf (ofBs (WM.all ms)) (rwVs Bw Bs) D') := by
  have up : ∀ i, i ≤ 4 → ∀ W D', RwAt w0 W S sv g b (n + 2 * i) x (rws x.d ms i).2 Bw Bs Bf (ofBs (WM.all ms)) (rwVs Bw Bs) D' → RwAt w0 W S sv g b (n + 8) x (rws x.d ms i).2 Bw Bs Bf (ofBs (WM.all ms)) (rwVs Bw Bs) D' :=
    fun i hi W D' h => ⟨h.wal.mono (by omega), h.touch, h.fresh, h.bw, h.bs, h.bf⟩
  refine row_any W Bf cap (rwFs Bw Bs) (fun i W' => (∀ j, j ≤ i → (rws x.d ms j).1 = 0) ∧ ∃ D', RwAt w0 W' S sv g b (n + 2 * i) x (rws x.d ms i).2 Bw Bs Bf (ofBs (WM.all ms)) (rwVs Bw Bs) D') _ ?_ ?_ ?_ ?_ ?_ (by simp [rwFs])
  · rintro i W' ⟨_, D', hr⟩ j hj
    rw [hr.bf.cell j]
    have hj4 : j < 4 := hj
    match j, hj4 with
    | 0, _ => rfl
    | 1, _ => rfl
    | 2, _ => rfl
    | 3, _ => rfl
  · intro j hj args W'
    have hj4 : j < 4 := hj
    match j, hj4 with
    | 0, _ => rfl
    | 1, _ => rfl
    | 2, _ => rfl
    | 3, _ => rfl
  · rintro i hi W' ⟨h0, D', hr⟩
    have hi4 : i < 4 := hi
    have go : ∀ e W1, DEnds D' b (n + 2 * i) W' (rws x.d ms (i + 1)) e W1 → RowEnd (fun k W' => k = 0 ∧ ((∀ j, j ≤ i + 1 → (rws x.d ms j).1 = 0) ∧ ∃ D', RwAt w0 W' S sv g b (n + 2 * (i + 1)) x (rws x.d ms (i + 1)).2 Bw Bs Bf (ofBs (WM.all ms)) (rwVs Bw Bs) D') ∨
        k ≠ 0 ∧ (k = (LM.rewriteD x.d ms).1 ∧ ∃ D', RwAt w0 W' S sv g b (n + 8) x (LM.rewriteD x.d ms).2 Bw Bs Bf (ofBs (WM.all ms)) (rwVs Bw Bs) D')) e W1 := by
      intro e W1 he
      obtain ⟨rfl, D'', hr'⟩ := hr.step he
      refine ⟨_, rfl, ?_⟩
      by_cases hz : (rws x.d ms (i + 1)).1 = 0
      · refine .inl ⟨hz, fun j hj => ?_, D'', hr'⟩
        rcases Nat.lt_or_ge i j with h1 | h1
        · obtain rfl : j = i + 1 := by omega
          exact hz
        · exact h0 j h1
      · have hre := rws_end x.d ms (i + 1) (by omega) (fun j hj => h0 j (by omega)) (.inr hz)
        refine .inr ⟨hz, by rw [hre], D'', ?_⟩
        rw [hre]
        exact up (i + 1) (by omega) _ _ hr'
    have hdk := hr.wal.disk
    have h0c := hr.wal.c0
    match i, hi4 with
    | 0, _ => exact (rw1_any hr.bw h0c hdk (by omega)).mono go
    | 1, _ => exact (rw2_any hr.bw hr.bs h0c hdk (by omega) (by rw [ofBs_size]; show DM.used (LM.clear x.d).2.fl + _ ≤ _; omega)).mono go
    | 2, _ => exact (rw3_any hr.bw h0c hdk (by omega)).mono go
    | 3, _ => exact (rw4_any hr.bw h0c hdk (by omega)).mono go
  · exact ⟨fun j hj => by obtain rfl : j = 0 := by omega
                          rfl, D, h⟩
  · rintro W' ⟨h0, D', hr⟩
    have h0' : ∀ j, j ≤ 4 → (rws x.d ms j).1 = 0 := h0
    have hre := rws_end x.d ms 4 (Nat.le_refl _) (fun j hj => h0' j (by omega)) (.inl rfl)
    rw [hre]
    exact ⟨(h0' 4 (by omega)).symm, D', up 4 (Nat.le_refl _) _ _ hr⟩
end Go.Proofs.YtmglkhnojimnlaaGreat

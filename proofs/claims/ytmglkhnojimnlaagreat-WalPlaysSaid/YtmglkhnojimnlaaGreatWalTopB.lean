import Derived.Test.YtmglkhnojimnlaaGreatWalTopA
import Derived.Deep.DeepCutAuto
import Derived.StillTailTactics
import Derived.Deep.RegionHeld3

/- Both logs side by side; opened. -/
namespace Go.Proofs.YtmglkhnojimnlaaGreat
open Go.RowKit Go.Maps
attribute [local go_sem] Oper.semAt_some

section
variable {w0 w w' : World} {B r e g b n : Nat} {dv lv : Value} {x : LM.L} {d : DM.D}
theorem row_keep {size k : Nat} {t : TypeId} {v : Value} {xs : List Value} {ts : List TypeId} (h : w.ownsRow B t size v k xs) (hk : KeepBut ts w w') (ht : t ∉ ts) : w'.ownsRow B t size v k xs := by
  obtain ⟨hl, h⟩ := h
  refine ⟨hl, ?_⟩
  rcases h with h | ⟨q, cap, cur, rfl, h1, h2, h3⟩
  · exact .inl h
  · exact .inr ⟨q, cap, cur, rfl, h1, hk _ _ _ h2 ht, h3⟩
theorem RefAt.keep {ts : List TypeId} (h : RefAt w B e dv n d) (hk : KeepBut ts w w') (h1 : 41 ∉ ts) (h2 : 68 ∉ ts) : RefAt w' B e dv n d := by
  obtain ⟨⟨ar, lf, hb, hl⟩, hr, hd, hf, hfit⟩ := h
  exact ⟨⟨ar, lf, hk _ _ _ hb h1, hl⟩, hr, hd, row_keep hf hk h2, hfit⟩
theorem RWal.keep (h : RWal w B r e dv lv n x) (hk : KeepBut walTs w w') : RWal w' B r e dv lv n x :=
  ⟨h.disk.keep hk (by decide) (by decide), hk _ _ _ h.blk (by decide), row_keep h.row hk (by decide), h.firm, h.small⟩
theorem OwnW.far {T : List Nat} (h : OwnW w0 w g b n x) (t : Touch T w w') (hT : ∀ k ∈ T, w0.heap.size ≤ k ∧ ∃ ty cs, Blk w k ty cs ∧ ty ∉ walTs) : OwnW w0 w' g b n x := by
  obtain ⟨S, D, sv, h1, h2, h3⟩ := h
  refine ⟨S, D, sv, h1.touch t (fun k hk hm => ?_), h2, h3.trans t (fun k hk => .inr (hT k hk).1)⟩
  obtain ⟨_, ty, cs, hb, hty⟩ := hT k hm
  exact h1.foots.ne hb hty hk
theorem Own.far {T : List Nat} (h : Own w0 w b n d) (t : Touch T w w') (hT : ∀ k ∈ T, w0.heap.size ≤ k ∧ ∃ ty cs, Blk w k ty cs ∧ ty ∉ walTs) : Own w0 w' b n d := by
  obtain ⟨S, hd, hn, h3⟩ := h.keepF
  refine (hd.touch t (fun k hk hm => ?_)).own hn (h3.trans t (fun k hk => .inr (hT k hk).1))
  obtain ⟨_, ty, cs, hb, hty⟩ := hT k hm
  exact (hd.foot.mono (ts' := walTs) (by simp)).ne hb hty hk
end
/-- the pair's block -/
def PV (b e : Nat) (p q : Value) : Array Value := #[.pointer (some ⟨b, 0, none⟩), .pointer (some ⟨e, 0, none⟩), p, q]
/-- both disks, whatever the logs are -/
structure WDisks (w0 w : World) (z b e n : Nat) (p q : Value) (d : DM.D) : Prop where
  own : Own w0 w b n d
  ref : ∃ dv, RefAt w w0.heap.size e dv n d
  blk : Blk w z 32 (PV b e p q)
  z0 : w0.heap.size ≤ z
  e0 : w0.heap.size ≤ e
  T : Touch [] w0 w
/-- .. and both logs -/
structure WOpen (w0 w : World) (z b e g r n : Nat) (x : LM.L) : Prop where
  own : OwnW w0 w g b n x
  ref : ∃ dv lv, RWal w w0.heap.size r e dv lv n x
  blk : Blk w z 32 (PV b e (.pointer (some ⟨g, 0, none⟩)) (.pointer (some ⟨r, 0, none⟩)))
  z0 : w0.heap.size ≤ z
  e0 : w0.heap.size ≤ e
  r0 : w0.heap.size ≤ r
  T : Touch [] w0 w
section
variable {w0 w w' : World} {z b e g r n : Nat} {p q : Value} {x : LM.L} {d : DM.D}
theorem WOpen.disks (h : WOpen w0 w z b e g r n x) : WDisks w0 w z b e n (.pointer (some ⟨g, 0, none⟩)) (.pointer (some ⟨r, 0, none⟩)) x.d := by
  obtain ⟨dv, lv, hr⟩ := h.ref
  exact ⟨h.own.own, ⟨dv, hr.disk⟩, h.blk, h.z0, h.e0, h.T⟩
theorem WDisks.z_e (h : WDisks w0 w z b e n p q d) : z ≠ e := by
  obtain ⟨dv, hr⟩ := h.ref
  obtain ⟨cs, hb⟩ := hr.dblk
  exact h.blk.ne_type hb (by decide)
theorem WDisks.set (h : WDisks w0 w z b e n p q d) (i : Nat) (v : Value) (p' q' : Value) (hp : (PV b e p q).setIfInBounds i v = PV b e p' q') : WDisks w0 (w.setCell ⟨z, i, none⟩ v) z b e n p' q' d := by
  have t : Touch [z] w (w.setCell ⟨z, i, none⟩ v) := (Touch.refl _ _).setCell _ _ (.inl (by simp))
  obtain ⟨dv, hr⟩ := h.ref
  refine ⟨h.own.far t (fun k hk => ?_), ⟨dv, hr.touch t (by simpa using h.z_e.symm) (fun k hk => ?_)⟩, hp ▸ h.blk.set_ i v, h.z0, h.e0, h.T.trans t (fun k hk => .inr (by simp at hk; subst hk; exact h.z0))⟩
  · simp at hk; subst hk
    exact ⟨h.z0, _, _, h.blk, by decide⟩
  · obtain ⟨cs, hb⟩ := row_blk hr.files k hk
    simpa using hb.ne_type h.blk (by decide)
theorem WOpen.of {dv lv : Value} (h : WDisks w0 w z b e n p q x.d) (hp : p = .pointer (some ⟨g, 0, none⟩)) (hq : q = .pointer (some ⟨r, 0, none⟩)) (ho : OwnW w0 w g b n x) (hr : RWal w w0.heap.size r e dv lv n x) (hr0 : w0.heap.size ≤ r) : WOpen w0 w z b e g r n x := by
  subst hp hq
  exact ⟨ho, ⟨dv, lv, hr⟩, h.blk, h.z0, h.e0, hr0, h.T⟩
theorem WOpen.quiet (h : WOpen w0 w z b e g r n x) (t : Touch [] w w') : WOpen w0 w' z b e g r n x := by
  obtain ⟨dv, lv, hr⟩ := h.ref
  exact ⟨h.own.touch t, ⟨dv, lv, hr.quiet t⟩, t.blk h.blk (by simp), h.z0, h.e0, h.r0, h.T.trans t (by simp)⟩
theorem WDisks.quiet (h : WDisks w0 w z b e n p q d) (t : Touch [] w w') : WDisks w0 w' z b e n p q d := by
  obtain ⟨dv, hr⟩ := h.ref
  exact ⟨h.own.far t (by simp), ⟨dv, hr.touch t (by simp) (by simp)⟩, t.blk h.blk (by simp), h.z0, h.e0, h.T.trans t (by simp)⟩
/-- what opening both comes to -/
def POpens (w0 : World) (z b e n : Nat) (o : (Int × DM.D) × List WM.Bs) (en : Ending) (w' : World) : Prop :=
  en = .returned (.bool true) ∧ ((o.1.1 ≠ 0 ∧ WDisks w0 w' z b e n (.pointer none) (.pointer none) o.1.2) ∨ (o.1.1 = 0 ∧ ∃ g r, WOpen w0 w' z b e g r n (LM.start o.1.2 o.2)))
set_option maxRecDepth 100000 in
set_option maxHeartbeats 3200000 in
theorem popen_any (h : WDisks w0 w z b e n p q d) (hn : n < 1099511627600) :
    Calls Tryz.prog 7 #[.pointer (some ⟨z, 0, none⟩)] w (POpens w0 z b e (n + 6) (LM.opened d)) := by
  have c0 : w.cell? ⟨z, 0, none⟩ = some (.pointer (some ⟨b, 0, none⟩)) := h.blk.cell 0
  have hop := oopen h.own hn
  obtain ⟨o, ho⟩ : ∃ o, o = LM.opened d := ⟨_, rfl⟩
  rw [← ho] at hop ⊢
  have HOP := Lib.hid hop
  have H := Lib.hid h
  have HO := Lib.hid ho
  clear hop h ho
  go_enter Tryz.func7, Tryz.ntmps7
  go_wp2_with fail
  refine HOP.out.mono ?_
  rintro en w1 ⟨hbad, hgood⟩
  obtain ⟨dv, hr⟩ := H.out.ref
  by_cases hz : o.1.1 = 0
  · obtain ⟨g, a1, c1, rfl, o1, x1, y1, m1, k1⟩ := hgood hz
    have hb1 := k1 _ _ _ H.out.blk (by decide)
    have hr1 := hr.keep k1 (by decide) (by decide)
    have d1 : w1.cell? ⟨z, 1, none⟩ = some (.pointer (some ⟨e, 0, none⟩)) := hb1.cell 1
    have hro := ropen_any hr1 hn o1.T.size
    rw [← HO.out] at hro
    have HRO := Lib.hid hro
    have HB1 := Lib.hid hb1
    have HR1 := Lib.hid hr1
    have HO1 := Lib.hid o1
    have HX1 := Lib.hid x1
    obtain ⟨q1, hq1⟩ : ∃ q, q = o.2.length := ⟨_, rfl⟩
    rw [← hq1]
    have HQ1 := Lib.hid hq1
    have hl1 : o.2.length ≤ 137438953472 := by have := lens_le o.2; have h2 : (WM.all o.2).length ≤ 1099511627776 := o1.small; omega
    have hl1I : (q1 : Int) ≤ 137438953472 := by omega
    have HL1 := Lib.hid hl1
    clear hbad hgood hb1 hr1 hro o1 x1 y1 m1 k1 hr hq1 hl1 HOP
    go_wp2_with fail
    refine HRO.out.mono ?_
    rintro en w2 (⟨h1, _⟩ | ⟨_, r, dv', lv', rfl, hr2, t2, hrl⟩)
    · exact absurd hz h1
    have hre := HR1.out.dblk
    obtain ⟨cse, hbe⟩ := hre
    have ho2 : OwnW w0 w2 g b (n + 6) (LM.start o.1.2 o.2) := HO1.out.far t2 (fun k hk => by simp at hk; subst hk; exact ⟨H.out.e0, _, _, hbe, by decide⟩)
    have hb2 := t2.blk HB1.out (by simpa using HB1.out.ne_type hbe (by decide))
    have hd2 : WDisks w0 w2 z b e (n + 6) p q o.1.2 := ⟨ho2.own, ⟨dv', hr2.disk⟩, hb2, H.out.z0, H.out.e0, ho2.T⟩
    have hd3 := hd2.set 2 (.pointer (some ⟨g, 0, none⟩)) (.pointer (some ⟨g, 0, none⟩)) q rfl
    have hd4 := hd3.set 3 (.pointer (some ⟨r, 0, none⟩)) (.pointer (some ⟨g, 0, none⟩)) (.pointer (some ⟨r, 0, none⟩)) rfl
    have e2 : w2.cell? ⟨z, 2, none⟩ = some p := hb2.cell 2
    have e3 : w2.cell? ⟨z, 3, none⟩ = some q := hb2.cell 3
    have f2 := hb2.frozen 2
    have f3 := hb2.frozen 3
    have t4 : Touch [z] w2 ((w2.setCell ⟨z, 2, none⟩ (.pointer (some ⟨g, 0, none⟩))).setCell ⟨z, 3, none⟩ (.pointer (some ⟨r, 0, none⟩))) := ((Touch.refl _ _).setCell _ _ (.inl (by simp))).setCell _ _ (.inl (by simp))
    have hr4 : RWal ((w2.setCell ⟨z, 2, none⟩ (.pointer (some ⟨g, 0, none⟩))).setCell ⟨z, 3, none⟩ (.pointer (some ⟨r, 0, none⟩))) w0.heap.size r e dv' lv' (n + 6) (LM.start o.1.2 o.2) :=
      hr2.touch t4 (by simpa using hr2.blk.ne_type hb2 (by decide)) (by simpa using hd2.z_e.symm) (fun k hk => by
        obtain ⟨cs, hb⟩ := row_blk hr2.disk.files k hk
        simpa using hb.ne_type hb2 (by decide)) (fun k hk => by
        obtain ⟨cs, hb⟩ := row_blk hr2.row k hk
        simpa using hb.ne_type hb2 (by decide))
    have ho4 := ho2.far t4 (fun k hk => by simp at hk; subst hk; exact ⟨H.out.z0, _, _, hb2, by decide⟩)
    have hres : WOpen w0 _ z b e g r (n + 6) (LM.start o.1.2 o.2) := WOpen.of hd4 rfl rfl ho4 hr4 (Nat.le_trans HO1.out.T.size hrl)
    have HRES := Lib.hid hres
    obtain ⟨a2, c2, hlv, hc2, hm2, hx2⟩ := hr4.lv_shape
    have hx1 : TextsB ((w2.setCell ⟨z, 2, none⟩ (.pointer (some ⟨g, 0, none⟩))).setCell ⟨z, 3, none⟩ (.pointer (some ⟨r, 0, none⟩))) a1 (o.2.map ofBs) :=
      (HX1.out.keep (KeepBut.of (Foot.cons hbe (by simp) (fun k hk => by cases hk) : Foot w1 [e] [41]) t2) (by decide)).keep (KeepBut.of (Foot.cons hb2 (by simp) (fun k hk => by cases hk) : Foot w2 [z] [32]) t4) (by decide)
    have hsm := same_any _ a1 a2 c1 c2 (o.2.map ofBs) (o.2.map ofBs) hx1.texts hx2.texts (by rw [List.length_map]; have := HL1.out; omega) (by rw [List.length_map]; have := HL1.out; omega)
    rw [sameB_refl, List.length_map, ← HQ1.out] at hsm
    have HSM := Lib.hid hsm
    have l1 : w2.cell? ⟨r, 1, none⟩ = some (.slice a2 q1 c2) := by
      have : w2.cell? ⟨r, 1, none⟩ = some lv' := hr2.blk.cell 1
      rw [this, hlv, HQ1.out]; rfl
    have hzr : z ≠ r := hb2.ne_type hr2.blk (by decide)
    clear hres hsm hx1 hx2 hr4 ho4 hd4 hd3 hd2 hr2 ho2 hb2 hbe t2 t4 hlv hc2 hm2
    go_wp2_with fail
    refine HSM.out.mono ?_
    rintro en w5 ⟨rfl, j5, hw5⟩
    have hfin := HRES.out.quiet (hw5 ▸ Touch.drewN [] _ j5 : Touch [] _ w5)
    have HFIN := Lib.hid hfin
    clear hw5 hfin
    go_wp2_with fail
    go_ret
    exact ⟨rfl, .inr ⟨hz, g, r, HFIN.out⟩⟩
  · obtain ⟨rfl, o1, k1⟩ := hbad hz
    have hb1 := k1 _ _ _ H.out.blk (by decide)
    have hr1 := hr.keep k1 (by decide) (by decide)
    have d1 : w1.cell? ⟨z, 1, none⟩ = some (.pointer (some ⟨e, 0, none⟩)) := hb1.cell 1
    have hro := ropen_any hr1 hn o1.T.size
    rw [← HO.out] at hro
    have HRO := Lib.hid hro
    have HB1 := Lib.hid hb1
    have HR1 := Lib.hid hr1
    have HO1 := Lib.hid o1
    obtain ⟨k, hk⟩ : ∃ k, k = o.1.1 := ⟨_, rfl⟩
    rw [← hk]
    have HKE := Lib.hid hk
    have hk0 : ¬ k = 0 := by rw [hk]; exact hz
    have hk1 : (k == 0) = false := by simpa using hk0
    have hk2 : (k != 0) = true := by simpa using hk0
    have hk3 : (k != k) = false := by simp
    have HZ := Lib.hid hz
    clear hbad hgood hb1 hr1 hro o1 k1 hr HOP hk hk0 hz
    go_wp2_with fail
    refine HRO.out.mono ?_
    rintro en w2 (⟨_, rfl, dv', hr2, t2⟩ | ⟨h1, _⟩)
    case inr => exact absurd h1 HZ.out
    rw [← HKE.out]
    obtain ⟨cse, hbe⟩ := HR1.out.dblk
    have ho2 : Own w0 w2 b (n + 6) o.1.2 := HO1.out.far t2 (fun k hk => by simp at hk; subst hk; exact ⟨H.out.e0, _, _, hbe, by decide⟩)
    have hb2 := t2.blk HB1.out (by simpa using HB1.out.ne_type hbe (by decide))
    have hd2 : WDisks w0 w2 z b e (n + 6) p q o.1.2 := ⟨ho2, ⟨dv', hr2⟩, hb2, H.out.z0, H.out.e0, ho2.T⟩
    have hd3 := hd2.set 2 (.pointer none) (.pointer none) q rfl
    have hd4 := hd3.set 3 (.pointer none) (.pointer none) (.pointer none) rfl
    have HD4 := Lib.hid hd4
    have e2 : w2.cell? ⟨z, 2, none⟩ = some p := hb2.cell 2
    have e3 : w2.cell? ⟨z, 3, none⟩ = some q := hb2.cell 3
    have f2 := hb2.frozen 2
    have f3 := hb2.frozen 3
    clear hd4 hd3 hd2 hr2 ho2 hb2 hbe t2
    go_wp2_with fail
    go_ret
    exact ⟨rfl, .inl ⟨HZ.out, HD4.out⟩⟩
end
end Go.Proofs.YtmglkhnojimnlaaGreat

/- Both logs side by side: the single calls. -/
namespace Go.Proofs.YtmglkhnojimnlaaGreat
open Go.RowKit Go.Maps
attribute [local go_sem] Oper.semAt_some

theorem row_ge {w : World} {B size n : Nat} {t : TypeId} {v : Value} {xs : List Value} (h : w.ownsRow B t size v n xs) : ∀ k, v.ownBlock = some k → B ≤ k := by
  obtain ⟨hl, hr⟩ := h
  rcases hr with h | ⟨g, cap, cur, rfl, h1, h2, h3⟩
  · intro k hk; rw [h.1] at hk; cases hk
  · intro k hk; cases hk; exact h1
/-- both disks, each in a state of its own -/
structure D2 (w0 w : World) (z b e n m : Nat) (p q : Value) (d d' : DM.D) : Prop where
  own : Own w0 w b n d
  ref : ∃ dv, RefAt w w0.heap.size e dv m d'
  blk : Blk w z 32 (PV b e p q)
  z0 : w0.heap.size ≤ z
  e0 : w0.heap.size ≤ e
  T : Touch [] w0 w
/-- both logs, each in a state of its own -/
structure W2 (w0 w : World) (z b e g r n m : Nat) (x y : LM.L) : Prop where
  own : OwnW w0 w g b n x
  ref : ∃ dv lv, RWal w w0.heap.size r e dv lv m y
  blk : Blk w z 32 (PV b e (.pointer (some ⟨g, 0, none⟩)) (.pointer (some ⟨r, 0, none⟩)))
  z0 : w0.heap.size ≤ z
  e0 : w0.heap.size ≤ e
  r0 : w0.heap.size ≤ r
  T : Touch [] w0 w
abbrev pairTs : List TypeId := [43, 41, 68, 9]
section
variable {w0 w w' : World} {z b e g r n m : Nat} {p q : Value} {x y : LM.L} {d d' : DM.D}
theorem WDisks.two (h : WDisks w0 w z b e n p q d) : D2 w0 w z b e n n p q d d := ⟨h.own, h.ref, h.blk, h.z0, h.e0, h.T⟩
theorem D2.one (h : D2 w0 w z b e n n p q d d) : WDisks w0 w z b e n p q d := ⟨h.own, h.ref, h.blk, h.z0, h.e0, h.T⟩
theorem WOpen.two (h : WOpen w0 w z b e g r n x) : W2 w0 w z b e g r n n x x := ⟨h.own, h.ref, h.blk, h.z0, h.e0, h.r0, h.T⟩
theorem W2.one (h : W2 w0 w z b e g r n n x x) : WOpen w0 w z b e g r n x := ⟨h.own, h.ref, h.blk, h.z0, h.e0, h.r0, h.T⟩
theorem W2.left {n' : Nat} {R : Int × LM.L} {en : Ending} (h : W2 w0 w z b e g r n m x y) (he : OEnds w0 g b n' w R en w') : en = .returned (.int .i64 R.1) ∧ W2 w0 w' z b e g r n' m R.2 y ∧ KeepBut walTs w w' := by
  obtain ⟨rfl, ho, hk⟩ := he
  obtain ⟨dv, lv, hr⟩ := h.ref
  exact ⟨rfl, ⟨ho, ⟨dv, lv, hr.keep hk⟩, hk _ _ _ h.blk (by decide), h.z0, h.e0, h.r0, ho.T⟩, hk⟩
theorem RWal.feet {B : Nat} {dv lv : Value} (h : RWal w B r e dv lv m y) (h1 : B ≤ r) (h2 : B ≤ e) : ∀ k ∈ r :: e :: lv.ownBlock.toList, B ≤ k ∧ ∃ ty cs, Blk w k ty cs ∧ ty ∈ pairTs := fun k hk => by
  obtain ⟨cs, hb⟩ := h.disk.dblk
  rcases List.mem_cons.1 hk with rfl | hk
  · exact ⟨h1, _, _, h.blk, by decide⟩
  · rcases List.mem_cons.1 hk with rfl | hk
    · exact ⟨h2, _, _, hb, by decide⟩
    · have hk' : lv.ownBlock = some k := by simpa using hk
      obtain ⟨cs, hb⟩ := row_blk h.row k hk'
      exact ⟨row_ge h.row k hk', _, _, hb, by decide⟩
theorem pair_wal : ∀ ty ∈ pairTs, ty ∉ walTs ∧ ty ≠ 32 := by decide
theorem W2.rcall {fn m' : Nat} {args : Array Value} {R : Int × LM.L} (h : W2 w0 w z b e g r n m x y) (hc : ∀ dv lv, RWal w w0.heap.size r e dv lv m y → Calls Tryz.prog fn args w (RWEnds w0.heap.size r e lv m' w R)) :
    Calls Tryz.prog fn args w fun en w' => en = .returned (.int .i64 R.1) ∧ W2 w0 w' z b e g r n m' x R.2 ∧ KeepBut pairTs w w' := by
  obtain ⟨dv, lv, hr⟩ := h.ref
  refine (hc dv lv hr).mono ?_
  rintro en w' ⟨rfl, dv', lv', hr', ht⟩
  have hf := hr.feet h.r0 h.e0
  have hfo : Foot w (r :: e :: lv.ownBlock.toList) pairTs := fun k hk => by
    obtain ⟨_, ty, cs, hb, hty⟩ := hf k hk
    exact .inl ⟨ty, cs, hb, hty⟩
  have ho := h.own.far ht (fun k hk => by
    obtain ⟨h1, ty, cs, hb, hty⟩ := hf k hk
    exact ⟨h1, ty, cs, hb, (pair_wal ty hty).1⟩)
  exact ⟨rfl, ⟨ho, ⟨dv', lv', hr'⟩, ht.blk h.blk (hfo.ne h.blk (by decide)), h.z0, h.e0, h.r0, ho.T⟩, KeepBut.of hfo ht⟩
theorem D2.crash (h : D2 w0 w z b e n m p q d d') (hn : n < 1099511627776) {a0 : Option Addr} {l0 c0 : Nat} {ps : List Int} (hp : Picks w0 (.slice a0 l0 c0) ps) :
    Calls Tryz.prog 21 #[.pointer (some ⟨b, 0, none⟩), .slice a0 l0 c0] w fun en w' => en = .returned (.tuple #[]) ∧ D2 w0 w' z b e n m p q (DM.crash d ps) d' ∧ KeepBut walTs w w' := by
  refine (ocrash h.own hn a0 l0 c0 ps hp).mono ?_
  rintro en w' ⟨rfl, ho, hk⟩
  obtain ⟨dv, hr⟩ := h.ref
  exact ⟨rfl, ⟨ho, ⟨dv, hr.keep hk (by decide) (by decide)⟩, hk _ _ _ h.blk (by decide), h.z0, h.e0, ho.T⟩, hk⟩
theorem RefAt.dfeet {B : Nat} {dv : Value} (h : RefAt w B e dv m d) (h2 : B ≤ e) : ∀ k ∈ e :: dv.ownBlock.toList, B ≤ k ∧ ∃ ty cs, Blk w k ty cs ∧ ty ∈ pairTs := fun k hk => by
  obtain ⟨cs, hb⟩ := h.dblk
  rcases List.mem_cons.1 hk with rfl | hk
  · exact ⟨h2, _, _, hb, by decide⟩
  · have hk' : dv.ownBlock = some k := by simpa using hk
    obtain ⟨cs, hb⟩ := row_blk h.files k hk'
    exact ⟨row_ge h.files k hk', _, _, hb, by decide⟩
theorem D2.rturn {dv dv' : Value} {S : List Nat} {d1 : DM.D} {m' : Nat} (h : D2 w0 w z b e n m p q d d') (hr : RefAt w w0.heap.size e dv m d') (hr' : RefAt w' w0.heap.size e dv' m' d1) (ht : Touch S w w') (hS : ∀ k ∈ S, k ∈ e :: dv.ownBlock.toList) :
    D2 w0 w' z b e n m' p q d d1 ∧ KeepBut pairTs w w' := by
  have hf := hr.dfeet h.e0
  have hfo : Foot w S pairTs := fun k hk => by
    obtain ⟨_, ty, cs, hb, hty⟩ := hf k (hS k hk)
    exact .inl ⟨ty, cs, hb, hty⟩
  have ho := h.own.far ht (fun k hk => by
    obtain ⟨h1, ty, cs, hb, hty⟩ := hf k (hS k hk)
    exact ⟨h1, ty, cs, hb, (pair_wal ty hty).1⟩)
  exact ⟨⟨ho, ⟨dv', hr'⟩, ht.blk h.blk (hfo.ne h.blk (by decide)), h.z0, h.e0, ho.T⟩, KeepBut.of hfo ht⟩
theorem D2.rcrash (h : D2 w0 w z b e n m p q d d') (hn : m < 1099511627773) {a0 : Option Addr} {l0 c0 : Nat} {ps : List Int} (hp : Picks w0 (.slice a0 l0 c0) ps) :
    Calls Tryz.prog 26 #[.pointer (some ⟨e, 0, none⟩), .slice a0 l0 c0] w fun en w' => en = .returned (.tuple #[]) ∧ D2 w0 w' z b e n m p q d (DM.crash d' ps) ∧ KeepBut pairTs w w' := by
  obtain ⟨dv, hr⟩ := h.ref
  refine (rcrash_any w w0.heap.size e m dv d' hr hn a0 l0 c0 ps ((hp _ (fun k hk => (hr.dfeet h.e0 k hk).1)).touch (h.T.mono (by simp)))).mono ?_
  rintro en w' ⟨rfl, hr', ht⟩
  exact ⟨rfl, h.rturn hr hr' ht (fun k hk => hk)⟩
theorem D2.rarm (h : D2 w0 w z b e n m p q d d') (k : Int) (hk : (Lit.int .i64 k).wf = true) :
    Calls Tryz.prog 28 #[.pointer (some ⟨e, 0, none⟩), .int .i64 k] w fun en w' => en = .returned (.tuple #[]) ∧ D2 w0 w' z b e n m p q d (DM.arm d' k) ∧ KeepBut pairTs w w' := by
  obtain ⟨dv, hr⟩ := h.ref
  refine (rarm_any w _ e m dv d' hr k hk).mono ?_
  rintro en w' ⟨rfl, hr', ht⟩
  exact ⟨rfl, h.rturn hr hr' ht (by simp)⟩
theorem D2.left {n' : Nat} {d1 : DM.D} (h : D2 w0 w z b e n m p q d d') (ho : Own w0 w' b n' d1) (hk : KeepBut walTs w w') : D2 w0 w' z b e n' m p q d1 d' := by
  obtain ⟨dv, hr⟩ := h.ref
  exact ⟨ho, ⟨dv, hr.keep hk (by decide) (by decide)⟩, hk _ _ _ h.blk (by decide), h.z0, h.e0, ho.T⟩
theorem own_small {R : DM.D} {fn : Nat} {args : Array Value} (h : Own w0 w b n d) (hc : ∀ S, DiskF w S b n d → Calls Tryz.prog fn args w fun en w' => en = .returned (.tuple #[]) ∧ DiskF w' S b n R ∧ Touch S w w') :
    Calls Tryz.prog fn args w fun en w' => en = .returned (.tuple #[]) ∧ Own w0 w' b n R ∧ KeepBut walTs w w' := by
  obtain ⟨S, hd, hN, T⟩ := h.keepF
  refine (hc S hd).mono ?_
  rintro e w' ⟨rfl, h1, h2⟩
  exact ⟨rfl, h1.own hN (hN.touch T h2), KeepBut.of (hd.foot.mono (by simp)) h2⟩
theorem ownw_small {R : DM.D} {fn : Nat} {args : Array Value} (h : OwnW w0 w g b n x) (hc : ∀ S, DiskF w S b n x.d → Calls Tryz.prog fn args w fun en w' => en = .returned (.tuple #[]) ∧ DiskF w' S b n R ∧ Touch S w w') :
    Calls Tryz.prog fn args w fun en w' => en = .returned (.tuple #[]) ∧ OwnW w0 w' g b n { x with d := R } ∧ KeepBut walTs w w' := by
  obtain ⟨S, D, sv, h1, h2, h3⟩ := h
  refine (hc D h1.disk).mono ?_
  rintro e w' ⟨rfl, hd, ht⟩
  have hD : ∀ k ∈ D, k ∈ S := fun k hk => by rw [h1.foot]; simp [hk]
  have hS := h1.foot
  refine ⟨rfl, ⟨_, D, sv, h1.turn hd ht, ?_, h2.touch h3 (ht.mono (fun k hk => .inl (hD k hk)))⟩, KeepBut.of h1.foots (ht.mono (fun k hk => .inl (hD k hk)))⟩
  rw [← hS]
  exact h2
theorem dlimit {S : List Nat} (h : DiskF w S b n d) (k : Int) (hk : (Lit.int .i64 k).wf = true) :
    Calls Tryz.prog 29 #[.pointer (some ⟨b, 0, none⟩), .int .i64 k] w fun e w' => e = .returned (.tuple #[]) ∧ DiskF w' S b n (DM.limit d k) ∧ Touch S w w' := by
  obtain ⟨mo, hd, rfl⟩ := h
  refine (limit_any w b n mo d hd k hk).mono ?_
  rintro e w' ⟨rfl, h1, h2⟩
  exact ⟨rfl, ⟨mo, h1, rfl⟩, h2.mono (by simp)⟩
end
end Go.Proofs.YtmglkhnojimnlaaGreat

/- Both logs side by side: one call of both (does). -/
namespace Go.Proofs.YtmglkhnojimnlaaGreat
open Go.RowKit Go.Maps
attribute [local go_sem] Oper.semAt_some

section
variable {w0 w w' : World} {z b e g r n m : Nat} {p q : Value} {x y : LM.L} {d d' : DM.D}
theorem D2.quiet (h : D2 w0 w z b e n m p q d d') (t : Touch [] w w') : D2 w0 w' z b e n m p q d d' := by
  obtain ⟨dv, hr⟩ := h.ref
  exact ⟨h.own.far t (by simp), ⟨dv, hr.touch t (by simp) (by simp)⟩, t.blk h.blk (by simp), h.z0, h.e0, h.T.trans t (by simp)⟩
theorem W2.quiet (h : W2 w0 w z b e g r n m x y) (t : Touch [] w w') : W2 w0 w' z b e g r n m x y := by
  obtain ⟨dv, lv, hr⟩ := h.ref
  exact ⟨h.own.touch t, ⟨dv, lv, hr.quiet t⟩, t.blk h.blk (by simp), h.z0, h.e0, h.r0, h.T.trans t (by simp)⟩
theorem OwnW.more {k : Nat} (h : OwnW w0 w g b n x) (hk : n ≤ k) : OwnW w0 w g b k x := by
  obtain ⟨S, D, sv, h1, h2, h3⟩ := h
  exact ⟨S, D, sv, h1.mono hk, h2, h3⟩
theorem Own.more {k : Nat} (h : Own w0 w b n d) (hk : n ≤ k) : Own w0 w b k d := by
  obtain ⟨S, hd, hn, T⟩ := h.keepF
  exact (hd.mono hk).own hn T
theorem WOpen.more {k : Nat} (h : WOpen w0 w z b e g r n x) (hk : n ≤ k) : WOpen w0 w z b e g r k x := by
  obtain ⟨dv, lv, hr⟩ := h.ref
  exact ⟨h.own.more hk, ⟨dv, lv, hr.more hk⟩, h.blk, h.z0, h.e0, h.r0, h.T⟩
theorem WDisks.more {k : Nat} (h : WDisks w0 w z b e n p q d) (hk : n ≤ k) : WDisks w0 w z b e k p q d := by
  obtain ⟨dv, hr⟩ := h.ref
  exact ⟨h.own.more hk, ⟨dv, hr.more hk⟩, h.blk, h.z0, h.e0, h.T⟩
end
/-- both logs, open or not -/
def WAny (w0 w : World) (z b e n u : Nat) : Prop :=
  (∃ d, WDisks w0 w z b e n (.pointer none) (.pointer none) d ∧ DM.Good d u) ∨ (∃ g r x, WOpen w0 w z b e g r n x ∧ LM.Fine u x)
section
variable {w0 w w' : World} {z b e g r n u : Nat} {p q : Value} {x y : LM.L} {d d' : DM.D}
theorem WAny.quiet (h : WAny w0 w z b e n u) (t : Touch [] w w') : WAny w0 w' z b e n u := by
  rcases h with ⟨d, h1, h2⟩ | ⟨g, r, x, h1, h2⟩
  · exact .inl ⟨d, h1.quiet t, h2⟩
  · exact .inr ⟨g, r, x, h1.quiet t, h2⟩
theorem WAny.more {k v : Nat} (h : WAny w0 w z b e n u) (hk : n ≤ k) (hv : u ≤ v) : WAny w0 w z b e k v := by
  rcases h with ⟨d, h1, h2⟩ | ⟨g, r, x, h1, h2⟩
  · exact .inl ⟨d, h1.more hk, h2.mono hv⟩
  · exact .inr ⟨g, r, x, h1.more hk, h2.more hv⟩
theorem WAny.disks (h : WAny w0 w z b e n u) : ∃ p q d, WDisks w0 w z b e n p q d ∧ DM.Good d u := by
  rcases h with ⟨d, h1, h2⟩ | ⟨g, r, x, h1, h2⟩
  · exact ⟨_, _, d, h1, h2⟩
  · exact ⟨_, _, _, h1.disks, h2.good⟩
theorem POpens.any {en : Ending} (h : POpens w0 z b e (n + 6) (LM.opened d) en w') (hg : DM.Good d u) : en = .returned (.bool true) ∧ WAny w0 w' z b e (n + 8) (u + 1664) := by
  obtain ⟨h0, h1⟩ := h
  refine ⟨h0, ?_⟩
  rcases h1 with ⟨_, h2⟩ | ⟨_, g, r, h2⟩
  · exact .inl ⟨_, h2.more (by omega), (LM.opened_good hg).mono (by omega)⟩
  · exact .inr ⟨g, r, _, h2.more (by omega), (LM.Fine.opened hg).more (by omega)⟩
theorem W2.rturn {m m' : Nat} {dv dv' lv : Value} {d1 : DM.D} (h : W2 w0 w z b e g r n m x y) (hr : RWal w w0.heap.size r e dv lv m y) (hr' : RefAt w' w0.heap.size e dv' m' d1) (ht : Touch [e] w w') :
    W2 w0 w' z b e g r n m' x { y with d := d1 } ∧ KeepBut pairTs w w' := by
  obtain ⟨cs, hb⟩ := hr.disk.dblk
  have hfo : Foot w [e] pairTs := Foot.cons hb (by decide) (fun k hk => by cases hk)
  have ho := h.own.far ht (fun k hk => by simp at hk; subst hk; exact ⟨h.e0, _, _, hb, by decide⟩)
  exact ⟨⟨ho, ⟨dv', lv, hr.turn hr' ht⟩, ht.blk h.blk (hfo.ne h.blk (by decide)), h.z0, h.e0, h.r0, ho.T⟩, KeepBut.of hfo ht⟩
theorem RefAt.room_ {B m : Nat} {dv : Value} (h : RefAt w B e dv m d) (k : Int) (h0 : 0 ≤ k) (h1 : k ≤ 3000) : RefAt (w.setCell ⟨e, 0, none⟩ (.int .i64 k)) B e dv m (DM.limit d k) ∧ Touch [e] w (w.setCell ⟨e, 0, none⟩ (.int .i64 k)) ∧ (∃ q, w.cell? ⟨e, 0, none⟩ = some (.int .i64 q)) ∧ w.frozen? ⟨e, 0, none⟩ = false := by
  obtain ⟨armed, left, hb, hl⟩ := h.blk
  have ht : Touch [e] w (w.setCell ⟨e, 0, none⟩ (.int .i64 k)) := (Touch.refl _ _).setCell _ _ (.inl (by simp))
  have ee : max k 0 = k := by omega
  exact ⟨h.own (d' := DM.limit d k) ht ⟨armed, left, by simp only [DM.limit, ee]; exact hb.set_ 0 _, hl⟩ (by simp only [DM.limit]; omega) h.done rfl (Nat.le_refl _), ht, ⟨_, h.c0⟩, hb.frozen 0⟩
end
set_option maxRecDepth 100000 in
set_option maxHeartbeats 12800000 in
theorem does_any {w0 w : World} {z b e n u : Nat} (h : WAny w0 w z b e n u) (hn : n < 1099511600000) (hu : u ≤ 1000000) (kd N : Int) (hN : (Lit.int .i64 N).wf = true) (la : Option Addr) (lc : Nat) (ss : List ByteArray) (pa : Option Addr) (pl pc : Nat) (ps : List Int)
    (ht : Texts w la ss) (hl : ss.length ≤ maxLen) (hs : ∀ s ∈ ss, s.size ≤ maxLen) (hps : Picks w0 (.slice pa pl pc) ps) :
    Calls Tryz.prog 8 #[.pointer (some ⟨z, 0, none⟩), .agg #[.int .i64 kd, .int .i64 N, .slice la ss.length lc, .slice pa pl pc]] w fun en w' => en = .returned (.bool true) ∧ WAny w0 w' z b e (n + 8) (u + 1664) := by
  obtain ⟨w1, hw1⟩ : ∃ w1, w1 = w.alloc (.cells #[.int .i64 kd, .int .i64 N, .slice la ss.length lc, .slice pa pl pc] 37) := ⟨_, rfl⟩
  have T1 : Touch [] w w1 := hw1 ▸ (Touch.refl [] w).alloc _
  have hX : Blk w1 w.heap.size 37 #[.int .i64 kd, .int .i64 N, .slice la ss.length lc, .slice pa pl pc] := hw1 ▸ Blk.new _ _ _
  have H1 := Lib.hid (h.quiet T1)
  have HX := Lib.hid hX
  have HTX := Lib.hid (ht.touch T1)
  have HSZ := Lib.hid (And.intro hl hs)
  have HPS := Lib.hid hps
  have HN := Lib.hid hN
  have hr9 : -9 ≤ kd.tmod 10 ∧ kd.tmod 10 ≤ 9 := by
    have := Int.tmod_lt_of_pos kd (show (0:Int) < 10 by decide)
    have h2 := Int.lt_tmod_of_pos kd (show (0:Int) < 10 by decide)
    omega
  obtain ⟨q, hq⟩ : ∃ q, q = kd.tmod 10 := ⟨_, rfl⟩
  rw [← hq] at hr9
  obtain ⟨hr0, hr1⟩ := hr9
  have HW1 := Lib.hid hw1
  obtain ⟨O, hO⟩ : ∃ O, O = w.heap.size := ⟨_, rfl⟩
  rw [← hO] at HX
  have HO := Lib.hid hO
  clear h ht hl hs hps hN T1 hX hw1 hO
  go_enter Tryz.func8, Tryz.ntmps8
  go_upto_if 11 with (fail)
  go_cut [5] (fun s5 wx => (∃ k : Int, s5 = .int .i64 k ∧ 0 ≤ k ∧ k ≤ 9) ∧ wx = w1)
  case first =>
    by_cases hneg : q < 0
    · go_wp2
      go_meet
      exact ⟨⟨_, rfl, by omega, by omega⟩, HW1.out.symm⟩
    · go_wp2
      go_meet
      exact ⟨⟨_, rfl, by omega, by omega⟩, HW1.out.symm⟩
  case rest =>
    obtain ⟨⟨k, rfl, hk0, hk1⟩, hw⟩ := hcut
    obtain rfl := hw.symm
    clear hq hr0 hr1
    rw [← HO.out]
    have x1 : w1.cell? ⟨O, 1, none⟩ = some (.int .i64 N) := HX.out.cell 1
    have x2 : w1.cell? ⟨O, 2, none⟩ = some (.slice la ss.length lc) := HX.out.cell 2
    have x3 : w1.cell? ⟨O, 3, none⟩ = some (.slice pa pl pc) := HX.out.cell 3
    by_cases h6 : k = 6
    · subst h6
      obtain ⟨p, q', d, hd, hg⟩ := H1.out.disks
      have f0 : w1.cell? ⟨z, 0, none⟩ = some (.pointer (some ⟨b, 0, none⟩)) := hd.blk.cell 0
      have HD := Lib.hid (hd.quiet (Touch.drewN [] w1 1)).two
      have HG := Lib.hid hg
      have hXd : Blk w1.drew O 37 #[.int .i64 kd, .int .i64 N, .slice la ss.length lc, .slice pa pl pc] := HX.out
      have HXD := Lib.hid hXd
      clear hd hg x1 x2 hXd
      go_wp2_with fail
      go_still_tail 6, (by kernel_rfl)
      change wpList _ _ _ _ _ w1.drew
      go_wp2_with fail
      refine (HD.out.crash (by omega) HPS.out).mono ?_
      rintro en w2 ⟨rfl, d2, k2⟩
      have f1 : w2.cell? ⟨z, 1, none⟩ = some (.pointer (some ⟨e, 0, none⟩)) := d2.blk.cell 1
      have y3 : w2.cell? ⟨O, 3, none⟩ = some (.slice pa pl pc) := (k2 _ _ _ HXD.out (by decide)).cell 3
      have HD2 := Lib.hid (d2.quiet (Touch.drewN [] w2 1))
      clear d2 k2 f0 x3
      go_wp2_with fail
      go_still_tail 6, (by kernel_rfl)
      change wpList _ _ _ _ _ w2.drew
      go_wp2_with fail
      refine (HD2.out.rcrash (by omega) HPS.out).mono ?_
      rintro en w3 ⟨rfl, d3, k3⟩
      have HP := Lib.hid (popen_any d3.one (by omega))
      clear d3 k3 f1 y3
      go_wp2_with fail
      refine HP.out.mono ?_
      rintro en w4 hpo
      obtain ⟨rfl, hfin⟩ := hpo.any (HG.out.crash ps)
      have HFIN := Lib.hid hfin
      clear hpo hfin
      go_wp2_with fail
      go_ret
      exact ⟨rfl, HFIN.out⟩
    have h6' : (k == 6) = false := by simpa using h6
    by_cases h9 : k = 9
    · subst h9
      obtain ⟨p, q', d, hd, hg⟩ := H1.out.disks
      have HP := Lib.hid (popen_any hd (by omega))
      have HG := Lib.hid hg
      clear hd hg x1 x2 x3
      go_wp2_with fail
      refine HP.out.mono ?_
      rintro en w4 hpo
      obtain ⟨rfl, hfin⟩ := hpo.any HG.out
      have HFIN := Lib.hid hfin
      clear hpo hfin
      go_wp2_with fail
      go_ret
      exact ⟨rfl, HFIN.out⟩
    have h9' : (k == 9) = false := by simpa using h9
    by_cases h7 : k = 7
    · subst h7
      rcases H1.out with ⟨d, hd, hg⟩ | ⟨g, r, x, hd, hg⟩
      · have f0 : w1.cell? ⟨z, 0, none⟩ = some (.pointer (some ⟨b, 0, none⟩)) := hd.blk.cell 0
        have hdd := (hd.quiet (Touch.drewN [] w1 1)).two
        have HD := Lib.hid hdd
        have HA := Lib.hid (own_small hdd.own (fun S hF => darm hF N))
        have HG := Lib.hid hg
        have hXd : Blk w1.drew O 37 #[.int .i64 kd, .int .i64 N, .slice la ss.length lc, .slice pa pl pc] := HX.out
        have HXD := Lib.hid hXd
        clear hd hg x2 x3 hXd hdd
        go_wp2_with fail
        go_still_tail 6, (by kernel_rfl)
        change wpList _ _ _ _ _ w1.drew
        go_wp2_with fail
        refine HA.out.mono ?_
        rintro en w2 ⟨rfl, o2, k2⟩
        have d2 := HD.out.left o2 k2
        have f1 : w2.cell? ⟨z, 1, none⟩ = some (.pointer (some ⟨e, 0, none⟩)) := d2.blk.cell 1
        have y1 : w2.cell? ⟨O, 1, none⟩ = some (.int .i64 N) := (k2 _ _ _ HXD.out (by decide)).cell 1
        have HD2 := Lib.hid (d2.quiet (Touch.drewN [] w2 1))
        clear d2 k2 f0 x1 o2
        go_wp2_with fail
        go_still_tail 6, (by kernel_rfl)
        change wpList _ _ _ _ _ w2.drew
        go_wp2_with fail
        refine (HD2.out.rarm N HN.out).mono ?_
        rintro en w3 ⟨rfl, d3, k3⟩
        have HFIN := Lib.hid (show WAny w0 w3 z b e (n + 8) (u + 1664) from .inl ⟨_, d3.one.more (by omega), (HG.out.same (d' := DM.arm d N) rfl).mono (by omega)⟩)
        clear d3 k3 f1 y1
        go_wp2_with fail
        go_ret
        exact ⟨rfl, HFIN.out⟩
      · have f0 : w1.cell? ⟨z, 0, none⟩ = some (.pointer (some ⟨b, 0, none⟩)) := hd.blk.cell 0
        have hdd := (hd.quiet (Touch.drewN [] w1 1)).two
        have HD := Lib.hid hdd
        have HA := Lib.hid (ownw_small hdd.own (fun S hF => darm hF N))
        have HG := Lib.hid hg
        have hXd : Blk w1.drew O 37 #[.int .i64 kd, .int .i64 N, .slice la ss.length lc, .slice pa pl pc] := HX.out
        have HXD := Lib.hid hXd
        clear hd hg x2 x3 hXd hdd
        go_wp2_with fail
        go_still_tail 6, (by kernel_rfl)
        change wpList _ _ _ _ _ w1.drew
        go_wp2_with fail
        refine HA.out.mono ?_
        rintro en w2 ⟨rfl, o2, k2⟩
        have d2 : W2 w0 w2 z b e g r n n { x with d := DM.arm x.d N } x := by
          obtain ⟨dv, lv, hr⟩ := HD.out.ref
          exact ⟨o2, ⟨dv, lv, hr.keep k2⟩, k2 _ _ _ HD.out.blk (by decide), HD.out.z0, HD.out.e0, HD.out.r0, o2.T⟩
        have f1 : w2.cell? ⟨z, 1, none⟩ = some (.pointer (some ⟨e, 0, none⟩)) := d2.blk.cell 1
        have y1 : w2.cell? ⟨O, 1, none⟩ = some (.int .i64 N) := (k2 _ _ _ HXD.out (by decide)).cell 1
        have d2q := d2.quiet (Touch.drewN [] w2 1)
        obtain ⟨dv, lv, hr2⟩ := d2q.ref
        have HR2 := Lib.hid hr2
        have HRA := Lib.hid (rarm_any _ _ e n dv x.d hr2.disk N HN.out)
        have HD2 := Lib.hid d2q
        clear d2 k2 f0 x1 o2 d2q hr2
        go_wp2_with fail
        go_still_tail 6, (by kernel_rfl)
        change wpList _ _ _ _ _ w2.drew
        go_wp2_with fail
        refine HRA.out.mono ?_
        rintro en w3 ⟨rfl, hr3, t3⟩
        obtain ⟨d3, k3⟩ := HD2.out.rturn HR2.out hr3 t3
        have HFIN := Lib.hid (show WAny w0 w3 z b e (n + 8) (u + 1664) from .inr ⟨g, r, _, d3.one.more (by omega), (show LM.Fine u { x with d := DM.arm x.d N } from ⟨HG.out.good.same (d' := DM.arm x.d N) rfl, HG.out.fits, HG.out.small⟩).more (by omega)⟩)
        clear d3 k3 f1 y1 hr3 t3
        go_wp2_with fail
        go_ret
        exact ⟨rfl, HFIN.out⟩
    have h7' : (k == 7) = false := by simpa using h7
    by_cases h8 : k = 8
    · subst h8
      by_cases hN0 : 0 ≤ N ∧ N ≤ 3000
      · have hNa : (0 : Int) ≤ N := hN0.1
        have hNb : N ≤ 3000 := hN0.2
        rcases H1.out with ⟨d, hd, hg⟩ | ⟨g, r, x, hd, hg⟩
        · have f0 : w1.cell? ⟨z, 0, none⟩ = some (.pointer (some ⟨b, 0, none⟩)) := hd.blk.cell 0
          have hdd := (hd.quiet (Touch.drewN [] w1 1)).two
          have HD := Lib.hid hdd
          have HA := Lib.hid (own_small hdd.own (fun S hF => dlimit hF N HN.out))
          have HG := Lib.hid hg
          have hXd : Blk w1.drew O 37 #[.int .i64 kd, .int .i64 N, .slice la ss.length lc, .slice pa pl pc] := HX.out
          have HXD := Lib.hid hXd
          clear hd hg x2 x3 hXd hdd
          go_wp2_with fail
          go_still_tail 6, (by kernel_rfl)
          change wpList _ _ _ _ _ w1.drew
          go_wp2_with fail
          refine HA.out.mono ?_
          rintro en w2 ⟨rfl, o2, k2⟩
          have d2 := HD.out.left o2 k2
          obtain ⟨dv, hr2⟩ := d2.ref
          obtain ⟨hr3, t3, ⟨q3, g0⟩, g1⟩ := hr2.room_ N hN0.1 hN0.2
          obtain ⟨d3, k3⟩ := d2.rturn hr2 hr3 t3 (by simp)
          have hfin : WAny w0 (w2.setCell ⟨e, 0, none⟩ (.int .i64 N)) z b e (n + 8) (u + 1664) := .inl ⟨_, d3.one.more (by omega), (HG.out.same (d' := DM.limit d N) rfl).mono (by omega)⟩
          have f1 : w2.cell? ⟨z, 1, none⟩ = some (.pointer (some ⟨e, 0, none⟩)) := d2.blk.cell 1
          have y1 : w2.cell? ⟨O, 1, none⟩ = some (.int .i64 N) := (k2 _ _ _ HXD.out (by decide)).cell 1
          have HFIN := Lib.hid hfin
          clear d2 k2 f0 x1 o2 hr2 hr3 t3 d3 k3 hfin
          go_wp2_with fail
          go_still_tail 8, (by kernel_rfl)
          change wpList _ _ _ _ _ w2.drew
          have f1' : w2.drew.cell? ⟨z, 1, none⟩ = some (.pointer (some ⟨e, 0, none⟩)) := f1
          have g0' : w2.drew.cell? ⟨e, 0, none⟩ = some (.int .i64 q3) := g0
          have g1' : w2.drew.frozen? ⟨e, 0, none⟩ = false := g1
          go_wp2_with fail
          go_ret
          exact ⟨rfl, HFIN.out.quiet (Touch.drewN [] _ 1)⟩
        · have f0 : w1.cell? ⟨z, 0, none⟩ = some (.pointer (some ⟨b, 0, none⟩)) := hd.blk.cell 0
          have hdd := (hd.quiet (Touch.drewN [] w1 1)).two
          have HD := Lib.hid hdd
          have HA := Lib.hid (ownw_small hdd.own (fun S hF => dlimit hF N HN.out))
          have HG := Lib.hid hg
          have hXd : Blk w1.drew O 37 #[.int .i64 kd, .int .i64 N, .slice la ss.length lc, .slice pa pl pc] := HX.out
          have HXD := Lib.hid hXd
          clear hd hg x2 x3 hXd hdd
          go_wp2_with fail
          go_still_tail 6, (by kernel_rfl)
          change wpList _ _ _ _ _ w1.drew
          go_wp2_with fail
          refine HA.out.mono ?_
          rintro en w2 ⟨rfl, o2, k2⟩
          have d2 : W2 w0 w2 z b e g r n n { x with d := DM.limit x.d N } x := by
            obtain ⟨dv, lv, hr⟩ := HD.out.ref
            exact ⟨o2, ⟨dv, lv, hr.keep k2⟩, k2 _ _ _ HD.out.blk (by decide), HD.out.z0, HD.out.e0, HD.out.r0, o2.T⟩
          obtain ⟨dv, lv, hr2⟩ := d2.ref
          obtain ⟨hr3, t3, ⟨q3, g0⟩, g1⟩ := hr2.disk.room_ N hN0.1 hN0.2
          obtain ⟨d3, k3⟩ := d2.rturn hr2 hr3 t3
          have hfin : WAny w0 (w2.setCell ⟨e, 0, none⟩ (.int .i64 N)) z b e (n + 8) (u + 1664) := .inr ⟨g, r, _, d3.one.more (by omega), (show LM.Fine u { x with d := DM.limit x.d N } from ⟨HG.out.good.same (d' := DM.limit x.d N) rfl, HG.out.fits, HG.out.small⟩).more (by omega)⟩
          have f1 : w2.cell? ⟨z, 1, none⟩ = some (.pointer (some ⟨e, 0, none⟩)) := d2.blk.cell 1
          have y1 : w2.cell? ⟨O, 1, none⟩ = some (.int .i64 N) := (k2 _ _ _ HXD.out (by decide)).cell 1
          have HFIN := Lib.hid hfin
          clear d2 k2 f0 x1 o2 hr2 hr3 t3 d3 k3 hfin
          go_wp2_with fail
          go_still_tail 8, (by kernel_rfl)
          change wpList _ _ _ _ _ w2.drew
          have f1' : w2.drew.cell? ⟨z, 1, none⟩ = some (.pointer (some ⟨e, 0, none⟩)) := f1
          have g0' : w2.drew.cell? ⟨e, 0, none⟩ = some (.int .i64 q3) := g0
          have g1' : w2.drew.frozen? ⟨e, 0, none⟩ = false := g1
          go_wp2_with fail
          go_ret
          exact ⟨rfl, HFIN.out.quiet (Touch.drewN [] _ 1)⟩
      · have HFIN := Lib.hid (H1.out.more (show n ≤ n + 8 by omega) (show u ≤ u + 1664 by omega))
        clear x2 x3
        by_cases hn0 : 0 ≤ N
        · have hn1 : ¬ N ≤ 3000 := fun h => hN0 ⟨hn0, h⟩
          clear hN0
          go_wp2_with fail
          go_ret
          exact ⟨rfl, HFIN.out⟩
        · clear hN0
          go_wp2_with fail
          go_ret
          exact ⟨rfl, HFIN.out⟩
    have h8' : (k == 8) = false := by simpa using h8
    rcases H1.out with ⟨d, hd, hg⟩ | ⟨g, r, x, hd, hg⟩
    · have f2 : w1.cell? ⟨z, 2, none⟩ = some (.pointer none) := hd.blk.cell 2
      have HP := Lib.hid (popen_any hd (by omega))
      have HG := Lib.hid hg
      clear hd hg x1 x2 x3
      go_wp2_with fail
      refine HP.out.mono ?_
      rintro en w4 hpo
      obtain ⟨rfl, hfin⟩ := hpo.any HG.out
      have HFIN := Lib.hid hfin
      clear hpo hfin
      go_wp2_with fail
      go_ret
      exact ⟨rfl, HFIN.out⟩
    · have f2 : w1.cell? ⟨z, 2, none⟩ = some (.pointer (some ⟨g, 0, none⟩)) := hd.blk.cell 2
      have HFW := Lib.hid (few_any w1 la lc ss HTX.out HSZ.out.1 HSZ.out.2)
      have HD := Lib.hid hd
      have HF := Lib.hid hg
      clear hd hg x1 x3
      go_wp2_with fail
      refine HFW.out.mono ?_
      rintro en w6 ⟨v6, rfl, hR6, T6⟩
      obtain ⟨a6, c6, rfl, hc6, hm6, tx6⟩ := hR6.open'
      obtain ⟨fA, zA⟩ := fewL_fits ss
      obtain ⟨xA, hxA⟩ : ∃ x, x = fewL ss := ⟨_, rfl⟩
      rw [← hxA] at fA zA tx6 hc6 ⊢
      have HFA := Lib.hid (And.intro fA zA)
      have HTX6 := Lib.hid (show TextsB w6.drew a6 xA from tx6)
      have HC6 := Lib.hid hc6
      have h2w := (HD.out.quiet (T6.drew_)).two
      have c2 : w6.cell? ⟨z, 2, none⟩ = some (.pointer (some ⟨g, 0, none⟩)) := h2w.blk.cell 2
      have c3 : w6.cell? ⟨z, 3, none⟩ = some (.pointer (some ⟨r, 0, none⟩)) := h2w.blk.cell 3
      have H2W := Lib.hid h2w
      clear hxA fA zA tx6 hc6 hm6 hR6 T6 f2 x2 h2w
      by_cases h3 : k = 3
      · subst h3
        have HC1 := Lib.hid (osync H2W.out.own (by omega))
        have HC2 := Lib.hid (fun W (hw : W2 w0 W z b e g r (n + 2) n (LM.sync x).2 x) (htx : TextsB W a6 xA) => hw.rcall (fn := 31) (fun dv lv hr => (fun h6b => rwsync_any hr (by omega) h6b) hw.T.size))
        have HRF := Lib.hid (show LM.Fine (u + 1664) (LM.sync x).2 from HF.out.sync.more (by omega))
        obtain ⟨R, hR⟩ : ∃ R, R = (LM.sync x) := ⟨_, rfl⟩
        rw [← hR] at HC1 HC2 HRF
        clear hR
        go_wp2_with fail
        go_region_held3 (fun W => W.cell? ⟨z, 2, none⟩ = some (.pointer (some ⟨g, 0, none⟩)) ∧ W.cell? ⟨z, 3, none⟩ = some (.pointer (some ⟨r, 0, none⟩))) (first | exact ⟨c2, c3⟩ | exact ⟨u2, u3⟩ | exact ⟨v2, v3⟩)
          (first
            | (go_at_call 20; refine HC1.out.mono ?_; intro en w7 he; obtain ⟨rfl, p2, k2⟩ := H2W.out.left he; have u2 : w7.cell? ⟨z, 2, none⟩ = some (.pointer (some ⟨g, 0, none⟩)) := p2.blk.cell 2; have u3 : w7.cell? ⟨z, 3, none⟩ = some (.pointer (some ⟨r, 0, none⟩)) := p2.blk.cell 3; have HP2 := Lib.hid p2; have HTX7 := Lib.hid (HTX6.out.keep k2 (by decide)); clear p2 k2 he)
            | (go_at_call 31; refine (HC2.out _ HP2.out HTX7.out).mono ?_; rintro en w8 ⟨rfl, p3, k3⟩; have v2 : w8.cell? ⟨z, 2, none⟩ = some (.pointer (some ⟨g, 0, none⟩)) := p3.blk.cell 2; have v3 : w8.cell? ⟨z, 3, none⟩ = some (.pointer (some ⟨r, 0, none⟩)) := p3.blk.cell 3; have HP3 := Lib.hid p3; clear p3 k3))
        all_goals
          go_wp2_with fail
          go_ret
          exact ⟨ret_bool (by simp), .inr ⟨g, r, _, HP3.out.one.more (by omega), HRF.out⟩⟩
      have h3' : (k == 3) = false := by simpa using h3
      by_cases h4 : k = 4
      · subst h4
        have HC1 := Lib.hid (osync H2W.out.own (by omega))
        have HC2 := Lib.hid (fun W (hw : W2 w0 W z b e g r (n + 2) n (LM.sync x).2 x) (htx : TextsB W a6 xA) => hw.rcall (fn := 31) (fun dv lv hr => (fun h6b => rwsync_any hr (by omega) h6b) hw.T.size))
        have HRF := Lib.hid (show LM.Fine (u + 1664) (LM.sync x).2 from HF.out.sync.more (by omega))
        obtain ⟨R, hR⟩ : ∃ R, R = (LM.sync x) := ⟨_, rfl⟩
        rw [← hR] at HC1 HC2 HRF
        clear hR
        go_wp2_with fail
        go_region_held3 (fun W => W.cell? ⟨z, 2, none⟩ = some (.pointer (some ⟨g, 0, none⟩)) ∧ W.cell? ⟨z, 3, none⟩ = some (.pointer (some ⟨r, 0, none⟩))) (first | exact ⟨c2, c3⟩ | exact ⟨u2, u3⟩ | exact ⟨v2, v3⟩)
          (first
            | (go_at_call 20; refine HC1.out.mono ?_; intro en w7 he; obtain ⟨rfl, p2, k2⟩ := H2W.out.left he; have u2 : w7.cell? ⟨z, 2, none⟩ = some (.pointer (some ⟨g, 0, none⟩)) := p2.blk.cell 2; have u3 : w7.cell? ⟨z, 3, none⟩ = some (.pointer (some ⟨r, 0, none⟩)) := p2.blk.cell 3; have HP2 := Lib.hid p2; have HTX7 := Lib.hid (HTX6.out.keep k2 (by decide)); clear p2 k2 he)
            | (go_at_call 31; refine (HC2.out _ HP2.out HTX7.out).mono ?_; rintro en w8 ⟨rfl, p3, k3⟩; have v2 : w8.cell? ⟨z, 2, none⟩ = some (.pointer (some ⟨g, 0, none⟩)) := p3.blk.cell 2; have v3 : w8.cell? ⟨z, 3, none⟩ = some (.pointer (some ⟨r, 0, none⟩)) := p3.blk.cell 3; have HP3 := Lib.hid p3; clear p3 k3))
        all_goals
          go_wp2_with fail
          go_ret
          exact ⟨ret_bool (by simp), .inr ⟨g, r, _, HP3.out.one.more (by omega), HRF.out⟩⟩
      have h4' : (k == 4) = false := by simpa using h4
      by_cases h5 : k = 5
      · subst h5
        have HC1 := Lib.hid (orewrite H2W.out.own (by omega) a6 c6 xA HTX6.out HFA.out.1 (by have := HFA.out.2; omega) (by have := HF.out.good.us; have := HFA.out.2; omega))
        have HC2 := Lib.hid (fun W (hw : W2 w0 W z b e g r (n + 8) n (LM.rewrite x (xA.map bs)).2 x) (htx : TextsB W a6 xA) => hw.rcall (fn := 32) (fun dv lv hr => (fun h6b => rwrewrite_any hr (by omega) h6b a6 c6 xA htx HC6.out.2 HFA.out.1 (by have := HFA.out.2; omega) (by have := HF.out.good.us; have := HFA.out.2; omega)) hw.T.size))
        have HRF := Lib.hid (show LM.Fine (u + 1664) (LM.rewrite x (xA.map bs)).2 from HF.out.rewrite _ HFA.out.1 HFA.out.2)
        obtain ⟨R, hR⟩ : ∃ R, R = (LM.rewrite x (xA.map bs)) := ⟨_, rfl⟩
        rw [← hR] at HC1 HC2 HRF
        clear hR
        go_wp2_with fail
        go_region_held3 (fun W => W.cell? ⟨z, 2, none⟩ = some (.pointer (some ⟨g, 0, none⟩)) ∧ W.cell? ⟨z, 3, none⟩ = some (.pointer (some ⟨r, 0, none⟩))) (first | exact ⟨c2, c3⟩ | exact ⟨u2, u3⟩ | exact ⟨v2, v3⟩)
          (first
            | (go_at_call 22; refine HC1.out.mono ?_; intro en w7 he; obtain ⟨rfl, p2, k2⟩ := H2W.out.left he; have u2 : w7.cell? ⟨z, 2, none⟩ = some (.pointer (some ⟨g, 0, none⟩)) := p2.blk.cell 2; have u3 : w7.cell? ⟨z, 3, none⟩ = some (.pointer (some ⟨r, 0, none⟩)) := p2.blk.cell 3; have HP2 := Lib.hid p2; have HTX7 := Lib.hid (HTX6.out.keep k2 (by decide)); clear p2 k2 he)
            | (go_at_call 32; refine (HC2.out _ HP2.out HTX7.out).mono ?_; rintro en w8 ⟨rfl, p3, k3⟩; have v2 : w8.cell? ⟨z, 2, none⟩ = some (.pointer (some ⟨g, 0, none⟩)) := p3.blk.cell 2; have v3 : w8.cell? ⟨z, 3, none⟩ = some (.pointer (some ⟨r, 0, none⟩)) := p3.blk.cell 3; have HP3 := Lib.hid p3; clear p3 k3))
        all_goals
          go_wp2_with fail
          go_ret
          exact ⟨ret_bool (by simp), .inr ⟨g, r, _, HP3.out.one.more (by omega), HRF.out⟩⟩
      have h5' : (k == 5) = false := by simpa using h5
      have HC1 := Lib.hid (oappend H2W.out.own (by omega) a6 c6 xA HTX6.out HFA.out.1 (by rw [WM.all_append, List.length_append]; have := HF.out.small; have := HFA.out.2; omega) (by have := HF.out.good.us; have := HFA.out.2; omega))
      have HC2 := Lib.hid (fun W (hw : W2 w0 W z b e g r (n + 2) n (LM.append x (xA.map bs)).2 x) (htx : TextsB W a6 xA) => hw.rcall (fn := 33) (fun dv lv hr => (fun h6b => rwappend_any hr (by omega) h6b a6 c6 xA htx HC6.out.2 HFA.out.1 (by rw [WM.all_append, List.length_append]; have := HF.out.small; have := HFA.out.2; omega) (by have := HF.out.good.us; have := HFA.out.2; omega)) hw.T.size))
      have HRF := Lib.hid (show LM.Fine (u + 1664) (LM.append x (xA.map bs)).2 from HF.out.append _ HFA.out.1 HFA.out.2)
      obtain ⟨R, hR⟩ : ∃ R, R = (LM.append x (xA.map bs)) := ⟨_, rfl⟩
      rw [← hR] at HC1 HC2 HRF
      clear hR
      go_wp2_with fail
      go_region_held3 (fun W => W.cell? ⟨z, 2, none⟩ = some (.pointer (some ⟨g, 0, none⟩)) ∧ W.cell? ⟨z, 3, none⟩ = some (.pointer (some ⟨r, 0, none⟩))) (first | exact ⟨c2, c3⟩ | exact ⟨u2, u3⟩ | exact ⟨v2, v3⟩)
        (first
          | (go_at_call 19; refine HC1.out.mono ?_; intro en w7 he; obtain ⟨rfl, p2, k2⟩ := H2W.out.left he; have u2 : w7.cell? ⟨z, 2, none⟩ = some (.pointer (some ⟨g, 0, none⟩)) := p2.blk.cell 2; have u3 : w7.cell? ⟨z, 3, none⟩ = some (.pointer (some ⟨r, 0, none⟩)) := p2.blk.cell 3; have HP2 := Lib.hid p2; have HTX7 := Lib.hid (HTX6.out.keep k2 (by decide)); clear p2 k2 he)
          | (go_at_call 33; refine (HC2.out _ HP2.out HTX7.out).mono ?_; rintro en w8 ⟨rfl, p3, k3⟩; have v2 : w8.cell? ⟨z, 2, none⟩ = some (.pointer (some ⟨g, 0, none⟩)) := p3.blk.cell 2; have v3 : w8.cell? ⟨z, 3, none⟩ = some (.pointer (some ⟨r, 0, none⟩)) := p3.blk.cell 3; have HP3 := Lib.hid p3; clear p3 k3))
      all_goals
        go_wp2_with fail
        go_ret
        exact ⟨ret_bool (by simp), .inr ⟨g, r, _, HP3.out.one.more (by omega), HRF.out⟩⟩
end Go.Proofs.YtmglkhnojimnlaaGreat

/- law10: WalPlays. -/
namespace Go.Proofs.YtmglkhnojimnlaaGreat
open Go.RowKit Go.Maps
attribute [local go_sem] Oper.semAt_some

/-- texts that came in -/
theorem texts_in {w : World} {a : Option Addr} {len cap : Nat} (h : Rd w 34 [.slice a len cap]) : ∃ ss : List ByteArray, len = ss.length ∧ len ≤ cap ∧ cap ≤ maxLen ∧ Texts w a ss ∧ ∀ s ∈ ss, s.size ≤ maxLen := by
  obtain ⟨hl, hc, g, hg⟩ := h.texts
  refine ⟨(List.range len).map g, by simp, hl, hc, fun i hi => ?_, fun s hs => ?_⟩
  · obtain ⟨blk, off, e, h0, h1⟩ := hg i (by simpa using hi)
    exact ⟨blk, off, e, by simpa using h0⟩
  · simp only [List.mem_map, List.mem_range] at hs
    obtain ⟨i, hi, rfl⟩ := hs
    obtain ⟨blk, off, e, h0, h1⟩ := hg i hi
    exact h1
/-- the script -/
def KOpsAt (w : World) (a : Option Addr) (len : Nat) : Prop :=
  ∀ i, i < len → ∃ (blk off : Nat) (kd N : Int) (la pa : Option Addr) (lc pl pc : Nat) (ss : List ByteArray) (ps : List Int), a = some ⟨blk, off, none⟩ ∧
    w.cell? ⟨blk, off + i * 4, none⟩ = some (.int .i64 kd) ∧ w.cell? ⟨blk, off + i * 4 + 1, none⟩ = some (.int .i64 N) ∧ w.cell? ⟨blk, off + i * 4 + 2, none⟩ = some (.slice la ss.length lc) ∧
    w.cell? ⟨blk, off + i * 4 + 3, none⟩ = some (.slice pa pl pc) ∧ (Lit.int .i64 kd).wf = true ∧ (Lit.int .i64 N).wf = true ∧ ss.length ≤ maxLen ∧ Texts w la ss ∧ (∀ s ∈ ss, s.size ≤ maxLen) ∧ pl ≤ maxLen ∧ Picks w (.slice pa pl pc) ps
set_option maxRecDepth 10000 in
theorem Rd.kops {w : World} {a : Option Addr} {len cap : Nat} (h : Rd w 22 [.slice a len cap]) : len ≤ cap ∧ cap ≤ maxLen ∧ KOpsAt w a len := by
  obtain ⟨hl, hc, _, hs, he⟩ := h.rows Tryz.underlying22 (m := 4) (by kernel_rfl) (by omega)
  refine ⟨hl, hc, fun i hi => ?_⟩
  obtain ⟨blk, off, cs, ha, hcl, hcell, hrd⟩ := he i hi
  have c1 : Tryz.prog.cellsOf 3 = 1 := by kernel_rfl
  have c2 : Tryz.prog.cellsOf 34 = 1 := by kernel_rfl
  have c3 : Tryz.prog.cellsOf 35 = 1 := by kernel_rfl
  obtain ⟨_, hf⟩ := hrd.struct Tryz.underlying37
  match cs, hcl with
  | [x, y, z, u], _ =>
    have f0 : Rd w 3 (([x, y, z, u].drop 0).take (Tryz.prog.cellsOf 3)) := hf 0 _ rfl
    have f1 : Rd w 3 (([x, y, z, u].drop 1).take (Tryz.prog.cellsOf 3)) := hf 1 _ rfl
    have f2 : Rd w 34 (([x, y, z, u].drop 2).take (Tryz.prog.cellsOf 34)) := hf 2 _ rfl
    have f3 : Rd w 35 (([x, y, z, u].drop 3).take (Tryz.prog.cellsOf 35)) := hf 3 _ rfl
    rw [c1] at f0 f1
    rw [c2] at f2
    rw [c3] at f3
    obtain ⟨kd, h0, w0⟩ := Rd.int Tryz.underlying3 f0
    obtain ⟨N, h1, w1⟩ := Rd.int Tryz.underlying3 f1
    obtain ⟨la, ll, lc, h2, _⟩ := Rd.slice Tryz.underlying34 f2
    obtain ⟨pa, pl, pc, h3, hp1, hp2, _⟩ := Rd.slice Tryz.underlying35 f3
    simp at h0 h1 h2 h3
    subst h0 h1 h2 h3
    obtain ⟨ss, rfl, hs1, hs2, hs3, hs4⟩ := texts_in (w := w) (a := la) (len := ll) (cap := lc) f2
    obtain ⟨ps, hp⟩ := Rd.picks (w := w) (a := pa) (len := pl) (cap := pc) f3
    exact ⟨blk, off, kd, N, la, pa, lc, pl, pc, ss, ps, ha, hcell 0 (by omega), hcell 1 (by omega), hcell 2 (by omega), hcell 3 (by omega), w0, w1, by omega, hs3, hs4, by omega, hp⟩
theorem KOpsAt.touch {w w' : World} {a : Option Addr} {len : Nat} (h : KOpsAt w a len) (ht : Touch [] w w') : ∀ i, i < len → ∃ (blk off : Nat) (kd N : Int) (la pa : Option Addr) (lc pl pc : Nat) (ss : List ByteArray) (ps : List Int), a = some ⟨blk, off, none⟩ ∧
    w'.cell? ⟨blk, off + i * 4, none⟩ = some (.int .i64 kd) ∧ w'.cell? ⟨blk, off + i * 4 + 1, none⟩ = some (.int .i64 N) ∧ w'.cell? ⟨blk, off + i * 4 + 2, none⟩ = some (.slice la ss.length lc) ∧
    w'.cell? ⟨blk, off + i * 4 + 3, none⟩ = some (.slice pa pl pc) ∧ (Lit.int .i64 kd).wf = true ∧ (Lit.int .i64 N).wf = true ∧ ss.length ≤ maxLen ∧ Texts w' la ss ∧ (∀ s ∈ ss, s.size ≤ maxLen) ∧ pl ≤ maxLen ∧ Picks w (.slice pa pl pc) ps := fun i hi => by
  obtain ⟨blk, off, kd, N, la, pa, lc, pl, pc, ss, ps, e, h0, h1, h2, h3, h4, h5, h6, h7, h8, h9, h10⟩ := h i hi
  exact ⟨blk, off, kd, N, la, pa, lc, pl, pc, ss, ps, e, ht.cell h0 (by simp), ht.cell h1 (by simp), ht.cell h2 (by simp), ht.cell h3 (by simp), h4, h5, h6, h7.touch ht, h8, h9, h10⟩

set_option maxRecDepth 100000 in
set_option maxHeartbeats 12800000 in
theorem plays_w (w : World) (a : Option Addr) (len cap : Nat) (hl : len ≤ cap) (hc : cap ≤ maxLen) (ho : KOpsAt w a len) :
    Calls Tryz.prog 3 #[.slice a len cap] w fun e w' => e = .returned (.bool true) ∧ Touch [] w w' := by
  have HO := Lib.hid ho
  unfold maxLen at hc
  clear ho
  go_enter Tryz.func3, Tryz.ntmps3
  go_wp2_with fail
  refine (awake_any _).mono ?_
  rintro e w1 ⟨rfl, T1⟩
  go_wp2_with fail
  refine (onew w w1 T1 3000 (by decide)).mono ?_
  rintro e w2 ⟨rfl, o2, T2⟩
  obtain ⟨b, hb⟩ : ∃ b, b = w1.heap.size := ⟨_, rfl⟩
  rw [← hb] at o2 ⊢
  have HO2 := Lib.hid o2
  have HT2 := Lib.hid (T1.trans T2 (by simp))
  clear hb T1 T2 o2
  go_wp2_with fail
  refine (rnew_any 3000 (by decide) w2 w.heap.size).mono ?_
  rintro e w3 ⟨rfl, hr3, T3⟩
  obtain ⟨eb, heb⟩ : ∃ eb, eb = w2.heap.size := ⟨_, rfl⟩
  rw [← heb] at hr3 ⊢
  obtain ⟨w4, hw4⟩ : ∃ w4, w4 = w3.alloc (.cells (PV b eb (.pointer none) (.pointer none)) 32) := ⟨_, rfl⟩
  have T4 : Touch [] w3 w4 := hw4 ▸ (Touch.refl [] w3).alloc _
  obtain ⟨z, hz⟩ : ∃ z, z = w3.heap.size := ⟨_, rfl⟩
  have hd4 : WDisks w w4 z b eb 0 (.pointer none) (.pointer none) (DM.new 3000) :=
    ⟨(HO2.out.far T3 (by simp)).far T4 (by simp), ⟨_, hr3.touch T4 (by simp) (by simp)⟩, by rw [hw4, hz]; exact Blk.new _ _ _, by rw [hz]; exact (HT2.out.trans T3 (by simp)).size, by rw [heb]; exact HT2.out.size, (HT2.out.trans T3 (by simp)).trans T4 (by simp)⟩
  have HP := Lib.hid (popen_any hd4 (by omega))
  have HW4 := Lib.hid (show w4 = w3.alloc (.cells #[.pointer (some ⟨b, 0, none⟩), .pointer (some ⟨eb, 0, none⟩), .pointer none, .pointer none] 32) from hw4)
  have HZ := Lib.hid hz
  clear hr3 T3 hw4 T4 hd4 hz heb HO2 HT2
  go_wp2_with fail
  rw [← HW4.out, ← HZ.out]
  refine HP.out.mono ?_
  rintro e w5 hpo
  obtain ⟨rfl, hfin⟩ := hpo.any (DM.Good.new 3000)
  have HA5 := Lib.hid hfin
  clear hpo hfin HP HW4 HZ
  go_wp2_with fail
  go_loopw [6] (fun s6 wr => ∃ i : Nat, s6 = .int .i64 i ∧ i ≤ 60 ∧ i ≤ len ∧ WAny w wr z b eb (8 * (i + 1)) (1664 * (i + 1))) (fun s6 _ => 60 - (intOf s6).toNat)
  case atStart => exact ⟨0, rfl, by omega, by omega, HA5.out.more (by omega) (by omega)⟩
  case round =>
    obtain ⟨i, rfl, hi, hil, hA⟩ := hrel
    have HA := Lib.hid hA
    have hTr : Touch [] w wr := by
      obtain ⟨p, q, d, hd, _⟩ := hA.disks
      exact hd.T
    clear hA
    by_cases hlt : i < len ∧ i < 60
    · obtain ⟨hlt, h60⟩ := hlt
      have h60I : (i : Int) < 60 := by omega
      obtain ⟨blk, off, kd, N, la, pa, lc, pl, pc, ss, ps, rfl, q0, q1, q2, q3, hkd, hN, hss, htx, hsz, hpl, hps⟩ := HO.out.touch hTr i hlt
      have HDO := Lib.hid (does_any HA.out (by omega) (by omega) kd N hN la lc ss pa pl pc ps htx hss hsz hps)
      clear hkd hN hss htx hsz hpl hps hTr
      go_wp2_with fail
      refine HDO.out.mono ?_
      rintro e w8 ⟨rfl, hA8⟩
      obtain ⟨p, q, d, hd, hg⟩ := hA8.disks
      obtain ⟨dv, hr⟩ := hd.ref
      have hq5 : w8.cell? ⟨eb, 5, none⟩ = some (.int .i64 d.done) := hr.c5
      have q0' : w8.cell? ⟨z, 0, none⟩ = some (.pointer (some ⟨b, 0, none⟩)) := hd.blk.cell 0
      have q1' : w8.cell? ⟨z, 1, none⟩ = some (.pointer (some ⟨eb, 0, none⟩)) := hd.blk.cell 1
      have XX := Lib.hid (show ∀ W, Touch [] w8 W → W.cell? ⟨z, 0, none⟩ = some (.pointer (some ⟨b, 0, none⟩)) ∧ W.cell? ⟨z, 1, none⟩ = some (.pointer (some ⟨eb, 0, none⟩)) ∧ W.cell? ⟨eb, 5, none⟩ = some (.int .i64 d.done) from fun W T =>
        ⟨T.cell q0' (by simp), T.cell q1' (by simp), T.cell hq5 (by simp)⟩)
      obtain ⟨us, hus⟩ : ∃ us, us = DM.used d.fl := ⟨_, rfl⟩
      have HU := Lib.hid (show ∀ W, Touch [] w8 W → Calls Tryz.prog 10 #[.pointer (some ⟨b, 0, none⟩)] W fun e w' => e = .returned (.int .i64 (us : Int)) ∧ Touch [] W w' from fun W T => by
        obtain ⟨mo, hdk, _⟩ := (hd.quiet T).own
        rw [hus]; exact used_any W b _ mo d hdk (by omega))
      have HRU := Lib.hid (show ∀ W, Touch [] w8 W → Calls Tryz.prog 11 #[.pointer (some ⟨eb, 0, none⟩)] W fun e w' => e = .returned (.int .i64 (us : Int)) ∧ ∃ j, w' = W.drewN j from fun W T => by
        rw [hus]; exact rused_any W _ eb _ _ d (hr.touch T (by simp) (by simp)) (by omega))
      have HST := Lib.hid (show ∀ W, Touch [] w8 W → Calls Tryz.prog 9 #[.pointer (some ⟨b, 0, none⟩)] W fun e w' => e = .returned (.int .i64 d.done) ∧ w' = W from fun W T => by
        obtain ⟨mo, hdk, _⟩ := (hd.quiet T).own
        exact steps_any W b _ mo d hdk)
      have HA8 := Lib.hid hA8
      have TD : Touch [] w8 w8.drew := Touch.drewN [] w8 1
      obtain ⟨c0, c1, c5⟩ := XX.out _ TD
      clear hd hr hg hA8 hus q0 q1 q2 q3
      go_wp2_with fail
      go_region_held3 (fun W => W.cell? ⟨z, 0, none⟩ = some (.pointer (some ⟨b, 0, none⟩)) ∧ W.cell? ⟨z, 1, none⟩ = some (.pointer (some ⟨eb, 0, none⟩)) ∧ W.cell? ⟨eb, 5, none⟩ = some (.int .i64 d.done)) (first | exact ⟨q0', q1', hq5⟩ | exact ⟨c0, c1, c5⟩ | exact XX.out _ t9 | exact XX.out _ ta)
        (first
          | (go_at_call 9; refine (HST.out _ TD).mono ?_; rintro e wb ⟨rfl, rfl⟩)
          | (go_at_call 10; refine (HU.out _ TD).mono ?_; rintro e w9 ⟨rfl, t9'⟩; have t9 := TD.trans t9' (by simp))
          | (go_at_call 11; refine (HRU.out _ t9).mono ?_; rintro e wa ⟨rfl, ja, rfl⟩; have ta : Touch [] w8 (w9.drewN ja) := t9.drewN_ ja))
      have hA9 := HA8.out.quiet ta
      have HEND := Lib.hid (show ∀ W, Touch [] w8 W → ∃ k : Nat, Value.int .i64 ((i : Int) + 1) = .int .i64 k ∧ k ≤ 60 ∧ k ≤ len ∧ WAny w W z b eb (8 * (k + 1)) (1664 * (k + 1)) from fun W T =>
        ⟨i + 1, by go_num, by omega, by omega, (HA8.out.quiet T).more (by omega) (by omega)⟩)
      clear q0' q1' hq5 TD c0 c1 c5 t9 t9' HDO HST HU HRU
      rcases hA9 with ⟨d9, hd9, hg9⟩ | ⟨g, r, x, hd9, hg9⟩
      · have f2 : (w9.drewN ja).cell? ⟨z, 2, none⟩ = some (.pointer none) := hd9.blk.cell 2
        have f2d : (w9.drewN ja).drew.cell? ⟨z, 2, none⟩ = some (.pointer none) := f2
        clear hd9 hg9
        obtain ⟨wq, hwq⟩ : ∃ wq, wq = w9.drewN ja := ⟨_, rfl⟩
        rw [← hwq] at f2 f2d ta
        go_wp2_with fail
        rw [← hwq]
        clear hwq
        go_quiet (fail)
        all_goals
          go_wp2_with fail
          go_roundw
          case rel => exact HEND.out _ (ta.drewN_ _)
          case measure => simp [intOf]; omega
      · obtain ⟨wq, hwq⟩ : ∃ wq, wq = w9.drewN ja := ⟨_, rfl⟩
        rw [← hwq] at hd9 ta
        obtain ⟨dvq, lvq, hrq⟩ := hd9.ref
        obtain ⟨S9, D9, sv9, hw9, _, _⟩ := hd9.own
        obtain ⟨al, cl, hlv, _, _, _⟩ := hrq.lv_shape
        have HXO := Lib.hid (show ∀ W, Touch [] wq W → W.cell? ⟨z, 2, none⟩ = some (.pointer (some ⟨g, 0, none⟩)) ∧ W.cell? ⟨z, 3, none⟩ = some (.pointer (some ⟨r, 0, none⟩)) ∧ W.cell? ⟨r, 1, none⟩ = some (.slice al x.l.length cl) ∧ W.cell? ⟨r, 2, none⟩ = some (.int .i64 (x.firm : Int)) ∧ W.cell? ⟨r, 3, none⟩ = some (.bool x.broken) from fun W T =>
          ⟨(hd9.quiet T).blk.cell 2, (hd9.quiet T).blk.cell 3, hlv ▸ (hrq.quiet T).blk.cell 1, (hrq.quiet T).blk.cell 2, (hrq.quiet T).blk.cell 3⟩)
        have HLEN := Lib.hid (fun W (T : Touch [] wq W) => wlen_any (hw9.quiet T))
        have HFIR := Lib.hid (fun W (T : Touch [] wq W) => wfirm_any (hw9.quiet T))
        have HSIZ := Lib.hid (fun W (T : Touch [] wq W) => wsize_any (hw9.quiet T))
        have HBRO := Lib.hid (fun W (T : Touch [] wq W) => wbroken_any (hw9.quiet T))
        have HRSZ := Lib.hid (fun W (T : Touch [] wq W) => rwsize_any (hrq.quiet T) hg9.fits)
        obtain ⟨c2, c3, e1, e2, e3⟩ := HXO.out _ (Touch.refl _ _)
        have TQ : Touch [] wq wq.drew := Touch.drewN [] wq 1
        obtain ⟨d2, d3, j1, j2, j3⟩ := HXO.out _ TQ
        have hxl := hrq.len
        have hxlI : (x.l.length : Int) ≤ 137438953472 := by omega
        have hbrn : (x.broken != x.broken) = false := by cases x.broken <;> rfl
        have hbre : (x.broken == x.broken) = true := by cases x.broken <;> rfl
        obtain ⟨br, hbr⟩ : ∃ br, br = x.broken := ⟨_, rfl⟩
        obtain ⟨sz, hsz⟩ : ∃ sz, sz = (WM.all x.l).length := ⟨_, rfl⟩
        rw [← hbr] at e3 j3 hbrn hbre HBRO HXO
        rw [← hsz] at HSIZ HRSZ
        clear hd9 hg9 hrq hw9 hlv hbr hsz hxl
        go_wp2_with fail
        rw [← hwq]
        clear hwq
        go_region_held3 (fun W => W.cell? ⟨z, 2, none⟩ = some (.pointer (some ⟨g, 0, none⟩)) ∧ W.cell? ⟨z, 3, none⟩ = some (.pointer (some ⟨r, 0, none⟩)) ∧ W.cell? ⟨r, 1, none⟩ = some (.slice al x.l.length cl) ∧ W.cell? ⟨r, 2, none⟩ = some (.int .i64 (x.firm : Int)) ∧ W.cell? ⟨r, 3, none⟩ = some (.bool br)) (first | exact ⟨c2, c3, e1, e2, e3⟩ | exact ⟨d2, d3, j1, j2, j3⟩ | exact HXO.out _ tS)
          (first
            | (go_at_call 12; refine (HLEN.out _ TQ).mono ?_; rintro e wb ⟨rfl, rfl⟩)
            | (go_at_call 13; refine (HFIR.out _ TQ).mono ?_; rintro e wb ⟨rfl, rfl⟩)
            | (go_at_call 14; refine (HSIZ.out _ TQ).mono ?_; rintro e wb ⟨rfl, rfl⟩)
            | (go_at_call 15; refine (HRSZ.out _ TQ).mono ?_; rintro e wS ⟨rfl, tS'⟩; have tS := TQ.trans tS' (by simp))
            | (go_at_call 16; refine (HBRO.out _ tS).mono ?_; rintro e wb ⟨rfl, rfl⟩))
        all_goals
          go_wp2_with fail
          go_roundw
          case rel => exact HEND.out _ (ta.trans tS (by simp))
          case measure => simp [intOf]; omega
    · have hne : ¬ ((i : Int) < (len : Int) ∧ (i : Int) < 60) := by omega
      have HT := Lib.hid hTr
      clear hTr
      by_cases h2 : i < len
      all_goals
        go_wp2_with fail
        go_ret
        exact ⟨rfl, HT.out⟩
theorem plays_walk (a : Option Addr) (l c : Nat) (w : World) (h : Rd w 22 [.slice a l c]) :
    Calls Tryz.prog 3 #[.slice a l c] w fun e w' => e = .returned (.bool true) ∧ Touch [] w w' := by
  obtain ⟨h1, h2, h3⟩ := h.kops
  exact plays_w w a l c h1 h2 h3
end Go.Proofs.YtmglkhnojimnlaaGreat

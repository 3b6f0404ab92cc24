/- Package fingerpostref09: Rename, Cut. -/
import Derived.Test.YtmglkhnojimnlaaGreatDiskRef4
namespace Go.Proofs.YtmglkhnojimnlaaGreat
open Go.RowKit Go.Maps Go.WideMaps
open DM (N F FL Sorted)

theorem may2_eq (d : DM.D) (n m : N) : DM.may2 d n m = if DM.may1 d false n ≠ 0 then DM.may1 d false n else if DM.may1 d false m ≠ 0 then DM.may1 d false m else DM.may1 d true n := by
  unfold DM.may2 DM.may1
  cases d.off <;> cases DM.bad n <;> cases DM.bad m <;> simp
set_option maxRecDepth 10000 in
set_option maxHeartbeats 1600000 in
theorem rrename_any (w : World) (B b n : Nat) (v : Value) (d : DM.D) (h : RefAt w B b v n d) (hn : n < 1099511627773) (hB : B ≤ w.heap.size) (k m : ByteArray) (hk : k.size ≤ maxLen) (hm' : m.size ≤ maxLen) :
    Calls Tryz.prog 68 #[.pointer (some ⟨b, 0, none⟩), .string k, .string m] w (REnds B b n w (DM.rename d (nm k) (nm m))) := by
  have hm1 := fun w1 (t1 : Touch [] w w1) => rmay_any w1 B b n v d (h.touch t1 (by simp) (by simp)) (by omega) k hk false
  have hm2 := fun w1 (t1 : Touch [] w w1) => rmay_any w1 B b n v d (h.touch t1 (by simp) (by simp)) (by omega) m hm' false
  have hm3 := fun w1 (t1 : Touch [] w w1) => rmay_any w1 B b n v d (h.touch t1 (by simp) (by simp)) (by omega) k hk true
  obtain ⟨e1, he1⟩ : ∃ e, e = DM.may1 d false (nm k) := ⟨_, rfl⟩
  obtain ⟨e2, he2⟩ : ∃ e, e = DM.may1 d false (nm m) := ⟨_, rfl⟩
  obtain ⟨e3, he3⟩ : ∃ e, e = DM.may1 d true (nm k) := ⟨_, rfl⟩
  rw [← he1] at hm1
  rw [← he2] at hm2
  rw [← he3] at hm3
  have HM1 := Lib.hid hm1
  have HM2 := Lib.hid hm2
  have HM3 := Lib.hid hm3
  have H := Lib.hid h
  have h2e := may2_eq d (nm k) (nm m)
  rw [← he1, ← he2, ← he3] at h2e
  have hr : DM.rename d (nm k) (nm m) = DM.thn d (DM.may2 d (nm k) (nm m)) (fun l => DM.put (DM.del l (nm k)) (nm m) (DM.getF l (nm k))) := rfl
  rw [hr]
  clear hm1 hm2 hm3 hr
  by_cases z1 : e1 = 0
  · by_cases z2 : e2 = 0
    · rw [if_neg (by simpa using z1), if_neg (by simpa using z2)] at h2e
      by_cases z3 : e3 = 0
      · subst z1 z2 z3
        rw [h2e]
        obtain ⟨_, hk0, hk40, his⟩ := may1_zero he3.symm
        obtain ⟨_, hm0, hm40, _⟩ := may1_zero he2.symm
        have HIS := Lib.hid (his rfl)
        have HFIT := Lib.hid h.fit
        have HBB := Lib.hid hB
        have HN := Lib.hid hn
        have hst2 := step_two d
        obtain ⟨s1, hs1⟩ : ∃ s1, s1 = (DM.step d).1 := ⟨_, rfl⟩
        have hrs : ∀ w1, Touch [] w w1 → Calls Tryz.prog 86 #[.pointer (some ⟨b, 0, none⟩)] w1 fun e w' => e = .returned (.int .i64 s1) ∧ RefAt w' B b v (n + 1) (DM.step d).2 ∧ Touch [b] w1 w' := fun w1 t1 => by
          rw [hs1]
          exact rstep_any w1 B b n v d (H.out.touch t1 (by simp) (by simp)) (by have := HN.out; omega)
        have HRS := Lib.hid hrs
        clear his h hB hn he1 he2 he3 h2e
        by_cases hs0 : s1 = 0
        · subst hs0
          rw [thn_yes _ _ hs1.symm]
          have hfl := (step_fl d).1
          obtain ⟨d1, hd1'⟩ : ∃ d1, d1 = (DM.step d).2 := ⟨_, rfl⟩
          rw [← hd1'] at HRS hfl ⊢
          obtain ⟨fd, hfd⟩ : ∃ fd, fd = (DM.getF d.fl (nm k)).1 := ⟨_, rfl⟩
          obtain ⟨ll, hll⟩ : ∃ ll, ll = (DM.getF d.fl (nm k)).2 := ⟨_, rfl⟩
          have hgs := (DM.sz_le d.fl (nm k))
          rw [← getF_size, ← hfd] at hgs
          have hgl := HFIT.out.getF (nm k)
          rw [← hfd, ← hll] at hgl
          have hgf : DM.getF d.fl (nm k) = (fd, ll) := by rw [hfd, hll]
          have hfit : Fit (DM.put (DM.del d.fl (nm k)) (nm m) (fd, ll)) (n + 2) := ((Fit.mk HFIT.out.sorted (by have := HFIT.out.len; omega) HFIT.out.small HFIT.out.each : Fit d.fl (n + 1)).del (nm k)).put (nm m) (fd, ll) (by rw [nm_size]; exact hm40) hgl (by
            have h1 := DM.used_put (DM.del d.fl (nm k)) (nm m) (fd, ll) (DM.sorted_del _ _ HFIT.out.sorted)
            have h3 := DM.used_del d.fl (nm k) HFIT.out.sorted
            have h2 := getF_size d.fl (nm k)
            rw [← hfd] at h2
            simp only at h1
            have := HFIT.out.small
            omega)
          have HFT := Lib.hid hfit
          rw [hgf]
          have hfd2 : (fd.size : Int) ≤ 1099511627776 := by have := HFIT.out.small; omega
          have HFD := Lib.hid (And.intro hfd hll)
          have HFL := Lib.hid hfl
          obtain ⟨ix, hix⟩ : ∃ ix, ix = DM.idx d.fl (nm k) := ⟨_, rfl⟩
          have HIX := Lib.hid hix
          clear hst2 hs1 hrs hd1' hfl hfit hgs hfd hll hix hgf hgl
          go_enter Tryz.func68, Tryz.ntmps68
          go_wp2_with fail
          refine (HM1.out _ (Touch.refl _ _)).mono ?_
          rintro e w1 ⟨rfl, j, hw1⟩
          have t1 : Touch [] w w1 := hw1 ▸ Touch.drewN [] w j
          clear hw1
          go_wp2_with fail
          refine (HM2.out _ t1).mono ?_
          rintro e w1b ⟨rfl, j2, hw1⟩
          have t1b : Touch [] w w1b := hw1 ▸ t1.drewN_ j2
          clear hw1 t1
          go_wp2_with fail
          refine (HM3.out _ t1b).mono ?_
          rintro e w1c ⟨rfl, j3, hw1⟩
          have t1 : Touch [] w w1c := hw1 ▸ t1b.drewN_ j3
          clear hw1 t1b
          go_wp2_with fail
          refine (HRS.out _ t1).mono ?_
          rintro e w2 ⟨rfl, h2, t2'⟩
          have t2 : Touch [b] w w2 := (t1.mono (by simp)).trans t2' (fun k hk => .inl hk)
          have hB2 : B ≤ w2.heap.size := Nat.le_trans HBB.out t2.size
          clear t2' t1
          have hn1 := HN.out
          have hfnd := rfind_any w2 B b (n + 1) v d1 h2 (by omega) k
          rw [HFL.out, ← HIX.out, HIS.out] at hfnd
          have HFN := Lib.hid hfnd
          clear hfnd
          go_wp2_with fail
          refine HFN.out.mono ?_
          rintro e w4 ⟨rfl, i, hw4⟩
          have T4 : Touch [] w2 w4 := hw4 ▸ Touch.drewN [] w2 i
          have h4 := h2.touch T4 (by simp) (by simp)
          clear hw4 HFN
          obtain ⟨g, cap, hv, hi, x0, x1, x2⟩ := h4.file k (by rw [HFL.out]; exact HIS.out)
          rw [HFL.out] at hi x0 x1 x2
          rw [← HIX.out] at hi x0 x1 x2
          rw [← HFD.out.1] at x1
          rw [← HFD.out.2] at x2
          subst hv
          have c1 := h4.c1
          have hlen := h4.fit.len
          have hlb : (d1.fl.length : Int) ≤ 1099511627776 := by omega
          rw [HFL.out] at c1 hlb
          have hFn := Blk.new w4 68 #[.string k, .string fd, .int .i64 (ll : Int)]
          have TF := (Touch.refl [] w4).alloc (.cells #[.string k, .string fd, .int .i64 (ll : Int)] 68)
          have hB4 : B ≤ w4.heap.size := Nat.le_trans hB2 T4.size
          have hb4 := h4.lt
          go_wp2_with fail
          refine (rdrop_any _ B b (n + 1) _ d1 (h4.touch TF (by simp) (by simp)) (by omega) (Nat.le_trans hB4 TF.size) k (by rw [HFL.out]; exact HIS.out)).mono ?_
          rintro e w6 ⟨rfl, v6, h6, t6, hv6⟩
          have hF6 := t6.blk hFn (by simp; omega)
          rw [HFL.out] at h6
          have y0 : w6.cell? ⟨w4.heap.size, 0, none⟩ = some (.string k) := hF6.cell 0
          have z0 := hF6.frozen 0
          obtain ⟨w7, hw7⟩ : ∃ w7, w7 = w6.setCell ⟨w4.heap.size, 0, none⟩ (.string m) := ⟨_, rfl⟩
          have hF7 : Blk w7 w4.heap.size 68 #[.string m, .string fd, .int .i64 (ll : Int)] := hw7 ▸ hF6.set_ 0 _
          have T7 : Touch [w4.heap.size] w6 w7 := hw7 ▸ (Touch.refl _ _).setCell _ _ (.inl (by simp))
          have hsz9 : (w4.alloc (.cells #[.string k, .string fd, .int .i64 (ll : Int)] 68)).heap.size = w4.heap.size + 1 := by simp
          have h7 := h6.touch T7 (by simp; omega) (fun g hg => by
            have := hv6 g hg
            simp only [List.mem_singleton]
            omega)
          have Tb : Touch [b] w4 w6 := (TF.mono (by simp)).trans t6 (fun q hq => .inl hq)
          have Tc : Touch [b] w4 w7 := Tb.trans T7 (fun q hq => by simp at hq; subst hq; exact .inr (Nat.le_refl _))
          have Tall : Touch [b] w w7 := t2.trans ((T4.mono (by simp)).trans Tc (fun q hq => .inl hq)) (fun q hq => .inl hq)
          have u0 : w7.cell? ⟨w4.heap.size, 0, none⟩ = some (.string m) := hF7.cell 0
          have u1 : w7.cell? ⟨w4.heap.size, 1, none⟩ = some (.string fd) := hF7.cell 1
          have u2 : w7.cell? ⟨w4.heap.size, 2, none⟩ = some (.int .i64 (ll : Int)) := hF7.cell 2
          rw [hw7] at u0 u1 u2
          have HW7 := Lib.hid hw7
          clear hw7 hFn TF hF6 c1 x0 x1 x2 T4
          go_wp2_with fail
          rw [← HW7.out]
          refine (rput_any w7 B b (n + 1) _ _ h7 (by omega) (Nat.le_trans HBB.out Tall.size) m (fd, ll) HFT.out).mono ?_
          rintro e w8 ⟨rfl, v8, h8, t8⟩
          go_wp2_with fail
          go_ret
          exact ⟨rfl, v8, h8, Tall.trans t8 (fun k hk => .inl hk)⟩
        · have hs14 : s1 = 14 := by rw [hs1]; exact hst2.resolve_left (by rw [← hs1]; exact hs0)
          rw [thn_no _ _ (by rw [← hs1]; exact hs0)]
          subst hs14
          clear hst2 hs1 hrs
          go_enter Tryz.func68, Tryz.ntmps68
          go_wp2_with fail
          refine (HM1.out _ (Touch.refl _ _)).mono ?_
          rintro e w1 ⟨rfl, j, hw1⟩
          have t1 : Touch [] w w1 := hw1 ▸ Touch.drewN [] w j
          clear hw1
          go_wp2_with fail
          refine (HM2.out _ t1).mono ?_
          rintro e w1b ⟨rfl, j2, hw1⟩
          have t1b : Touch [] w w1b := hw1 ▸ t1.drewN_ j2
          clear hw1 t1
          go_wp2_with fail
          refine (HM3.out _ t1b).mono ?_
          rintro e w1c ⟨rfl, j3, hw1⟩
          have t1 : Touch [] w w1c := hw1 ▸ t1b.drewN_ j3
          clear hw1 t1b
          go_wp2_with fail
          refine (HRS.out _ t1).mono ?_
          rintro e w2 ⟨rfl, h2, t2⟩
          go_wp2_with fail
          go_ret
          exact ⟨rfl, v, h2.more (by omega), (t1.mono (by simp)).trans t2 (fun k hk => .inl hk)⟩
      · rw [h2e, thn_err _ _ _ z3]
        subst z1 z2
        have z3' : (e3 == 0) = false := by simpa using z3
        clear he1 he2 he3 h h2e hB
        go_enter Tryz.func68, Tryz.ntmps68
        go_wp2_with fail
        refine (HM1.out _ (Touch.refl _ _)).mono ?_
        rintro e w1 ⟨rfl, j, hw1⟩
        have t1 : Touch [] w w1 := hw1 ▸ Touch.drewN [] w j
        clear hw1
        go_wp2_with fail
        refine (HM2.out _ t1).mono ?_
        rintro e w1b ⟨rfl, j2, hw1⟩
        have t1b : Touch [] w w1b := hw1 ▸ t1.drewN_ j2
        clear hw1 t1
        go_wp2_with fail
        refine (HM3.out _ t1b).mono ?_
        rintro e w1c ⟨rfl, j3, hw1⟩
        have t1 : Touch [] w w1c := hw1 ▸ t1b.drewN_ j3
        clear hw1 t1b
        go_wp2_with fail
        go_ret
        exact REnds.still (H.out.touch t1 (by simp) (by simp)) t1 rfl
    · rw [if_neg (by simpa using z1), if_pos z2] at h2e
      rw [h2e, thn_err _ _ _ z2]
      subst z1
      have z2' : (e2 == 0) = false := by simpa using z2
      clear he1 he2 he3 h h2e hB
      go_enter Tryz.func68, Tryz.ntmps68
      go_wp2_with fail
      refine (HM1.out _ (Touch.refl _ _)).mono ?_
      rintro e w1 ⟨rfl, j, hw1⟩
      have t1 : Touch [] w w1 := hw1 ▸ Touch.drewN [] w j
      clear hw1
      go_wp2_with fail
      refine (HM2.out _ t1).mono ?_
      rintro e w1b ⟨rfl, j2, hw1⟩
      have t1b : Touch [] w w1b := hw1 ▸ t1.drewN_ j2
      clear hw1 t1
      go_wp2_with fail
      go_ret
      exact REnds.still (H.out.touch t1b (by simp) (by simp)) t1b rfl
  · rw [if_pos z1] at h2e
    rw [h2e, thn_err _ _ _ z1]
    have z1' : (e1 == 0) = false := by simpa using z1
    clear he1 he2 he3 h h2e hB
    go_enter Tryz.func68, Tryz.ntmps68
    go_wp2_with fail
    refine (HM1.out _ (Touch.refl _ _)).mono ?_
    rintro e w1 ⟨rfl, j, hw1⟩
    have t1 : Touch [] w w1 := hw1 ▸ Touch.drewN [] w j
    clear hw1
    go_wp2_with fail
    go_ret
    exact REnds.still (H.out.touch t1 (by simp) (by simp)) t1 rfl

set_option maxRecDepth 10000 in
set_option maxHeartbeats 1600000 in
theorem rcut_any (w : World) (B b n : Nat) (v : Value) (d : DM.D) (h : RefAt w B b v n d) (hn : n < 1099511627773) (hB : B ≤ w.heap.size) (k : ByteArray) (hk : k.size ≤ maxLen) (c : Int) :
    Calls Tryz.prog 63 #[.pointer (some ⟨b, 0, none⟩), .string k, .int .i64 c] w (REnds B b n w (DM.cut d (nm k) c)) := by
  have hm := rmay_any w B b n v d h (by omega) k hk true
  obtain ⟨e0, he0⟩ : ∃ e0, e0 = DM.may1 d true (nm k) := ⟨_, rfl⟩
  rw [← he0] at hm
  have HM := Lib.hid hm
  have H := Lib.hid h
  have hr : DM.cut d (nm k) c = if e0 = 0 ∧ (c < 0 ∨ ((DM.getF d.fl (nm k)).1.size : Int) < c) then (1, d) else DM.thn d e0 (fun l => DM.put l (nm k) ((DM.getF l (nm k)).1.extract 0 c.toNat, min (DM.getF l (nm k)).2 c.toNat)) := by unfold DM.cut; simp only [← he0]
  by_cases hz : e0 = 0
  · subst hz
    obtain ⟨_, hk0, hk40, his⟩ := may1_zero he0.symm
    have HIS := Lib.hid (his rfl)
    have HFIT := Lib.hid h.fit
    have HBB := Lib.hid hB
    have HN := Lib.hid hn
    obtain ⟨fd, hfd⟩ : ∃ fd, fd = (DM.getF d.fl (nm k)).1 := ⟨_, rfl⟩
    obtain ⟨ll, hll⟩ : ∃ ll, ll = (DM.getF d.fl (nm k)).2 := ⟨_, rfl⟩
    obtain ⟨ix, hix⟩ : ∃ ix, ix = DM.idx d.fl (nm k) := ⟨_, rfl⟩
    have hfnd := fun w1 (t1 : Touch [] w w1) => rfind_any w1 B b n v d (h.touch t1 (by simp) (by simp)) (by omega) k
    rw [← hix, HIS.out] at hfnd
    have HFN := Lib.hid hfnd
    obtain ⟨g, cap, hv, hi, x0, x1, x2⟩ := h.file k (his rfl)
    subst hv
    rw [← hix] at hi x0 x1 x2
    rw [← hfd] at x1
    rw [← hll] at x2
    have hgs := (DM.sz_le d.fl (nm k))
    rw [← getF_size, ← hfd] at hgs
    have hgl := HFIT.out.getF (nm k)
    rw [← hfd, ← hll] at hgl
    have hfd2 : (fd.size : Int) ≤ 1099511627776 := by have := HFIT.out.small; omega
    have hlen := h.fit.len
    have hlb : (d.fl.length : Int) ≤ 1099511627776 := by omega
    have c1 := h.c1
    have hall : ∀ w1, Touch [] w w1 → w1.cell? ⟨b, 1, none⟩ = some (.slice (some ⟨g, 0, none⟩) d.fl.length cap) ∧ w1.cell? ⟨g, ix * 3, none⟩ = some (.string k) ∧ w1.cell? ⟨g, ix * 3 + 1, none⟩ = some (.string fd) ∧ w1.cell? ⟨g, ix * 3 + 2, none⟩ = some (.int .i64 (ll : Int)) := fun w1 t1 => ⟨t1.cell c1 (by simp), t1.cell x0 (by simp), t1.cell x1 (by simp), t1.cell x2 (by simp)⟩
    have HALL := Lib.hid hall
    rw [← hfd] at hr
    have HFD := Lib.hid (And.intro hfd hll)
    have HIX := Lib.hid hix
    clear hm his h hB hn hfnd c1 x0 x1 x2 hall hix hlen
    by_cases hc : c < 0 ∨ (fd.size : Int) < c
    · rw [hr, if_pos ⟨rfl, hc⟩]
      have HC := Lib.hid hc
      clear hr he0 hc hfd hll
      rcases HC.out with hc | hc
      all_goals
        have hd1 : decide (c < 0) = _ := (by first | exact decide_eq_true hc | exact decide_eq_false (show ¬ c < 0 by omega))
        have hd2 : decide ((fd.size : Int) < c) = _ := (by first | exact decide_eq_true hc | exact decide_eq_false (show ¬ (fd.size : Int) < c by omega))
        go_enter Tryz.func63, Tryz.ntmps63
        go_wp2_with fail
        refine HM.out.mono ?_
        rintro e w1 ⟨rfl, j, hw1⟩
        have t1 : Touch [] w w1 := hw1 ▸ Touch.drewN [] w j
        clear hw1
        go_wp2_with fail
        refine (HFN.out w1 t1).mono ?_
        rintro e w2 ⟨rfl, j2, hw2⟩
        have t2 : Touch [] w w2 := hw2 ▸ t1.drewN_ j2
        clear hw2 t1
        obtain ⟨c1, x0, x1, x2⟩ := HALL.out w2 t2
        go_wp2_with fail
        go_ret
        exact REnds.still (H.out.touch t2 (by simp) (by simp)) t2 rfl
    · rw [hr, if_neg (fun h => hc h.2)]
      obtain ⟨cn, rfl⟩ : ∃ cn : Nat, c = (cn : Int) := ⟨c.toNat, by omega⟩
      have hcs : cn ≤ fd.size := by omega
      have hcs' : (cn : Int) ≤ (fd.size : Int) := by omega
      have hd1 : decide ((cn : Int) < 0) = false := decide_eq_false (by omega)
      have hd2 : decide ((fd.size : Int) < (cn : Int)) = false := decide_eq_false (by omega)
      rw [show ((cn : Int)).toNat = cn by omega]
      have hst2 := step_two d
      obtain ⟨s1, hs1⟩ : ∃ s1, s1 = (DM.step d).1 := ⟨_, rfl⟩
      have hrs : ∀ w1, Touch [] w w1 → Calls Tryz.prog 86 #[.pointer (some ⟨b, 0, none⟩)] w1 fun e w' => e = .returned (.int .i64 s1) ∧ RefAt w' B b (.slice (some ⟨g, 0, none⟩) d.fl.length cap) (n + 1) (DM.step d).2 ∧ Touch [b] w1 w' := fun w1 t1 => by
        rw [hs1]
        exact rstep_any w1 B b n _ d (H.out.touch t1 (by simp) (by simp)) (by have := HN.out; omega)
      have HRS := Lib.hid hrs
      by_cases hs0 : s1 = 0
      · subst hs0
        rw [thn_yes _ _ hs1.symm]
        have hfl := (step_fl d).1
        obtain ⟨d1, hd1'⟩ : ∃ d1, d1 = (DM.step d).2 := ⟨_, rfl⟩
        rw [← hd1'] at HRS hfl ⊢
        have hes : (fd.extract 0 cn).size = cn := by rw [ByteArray.size_extract]; omega
        have hfit : Fit (DM.put d.fl (nm k) (fd.extract 0 cn, min ll cn)) (n + 2) := (Fit.mk HFIT.out.sorted (by have := HFIT.out.len; omega) HFIT.out.small HFIT.out.each : Fit d.fl (n + 1)).put (nm k) (fd.extract 0 cn, min ll cn) (by rw [nm_size]; exact hk40) (by simp only [hes]; omega) (by
          have h1 := DM.used_put d.fl (nm k) (fd.extract 0 cn, min ll cn) HFIT.out.sorted
          have h2 := getF_size d.fl (nm k)
          rw [← hfd] at h2
          simp only [hes] at h1
          have := HFIT.out.small
          omega)
        have HFT := Lib.hid hfit
        simp only [← hfd, ← hll]
        have HFL := Lib.hid hfl
        clear hr he0 hst2 hs1 hrs hd1' hfl hfit hgs hfd hll hes hc
        by_cases hlc : (cn : Int) < (ll : Int)
        · have hmin : min ll cn = cn := by omega
          rw [hmin] at HFT ⊢
          clear hmin
          go_enter Tryz.func63, Tryz.ntmps63
          go_wp2_with fail
          refine HM.out.mono ?_
          rintro e w1 ⟨rfl, j, hw1⟩
          have t1 : Touch [] w w1 := hw1 ▸ Touch.drewN [] w j
          clear hw1
          go_wp2_with fail
          refine (HFN.out w1 t1).mono ?_
          rintro e w2 ⟨rfl, j2, hw2⟩
          have t2 : Touch [] w w2 := hw2 ▸ t1.drewN_ j2
          clear hw2 t1
          obtain ⟨c1, x0, x1, x2⟩ := HALL.out w2 t2
          go_wp2_with fail
          refine (HRS.out _ t2).mono ?_
          rintro e w4 ⟨rfl, h4, t3'⟩
          have t3 : Touch [b] w w4 := (t2.mono (by simp)).trans t3' (fun k hk => .inl hk)
          have hB3 : B ≤ w4.heap.size := Nat.le_trans HBB.out t3.size
          have hn1 := HN.out
          clear t3' t2 c1 x0 x1 x2
          obtain ⟨g', cap', hv', hi', x0, x1, x2⟩ := h4.file k (by rw [HFL.out]; exact HIS.out)
          rw [HFL.out, ← HIX.out] at x0 x1 x2
          rw [← HFD.out.1] at x1
          rw [← HFD.out.2] at x2
          have c1 := h4.c1
          rw [HFL.out] at hv'
          cases hv'
          obtain ⟨w5, hw5⟩ : ∃ w5, w5 = w4.alloc (.cells #[.string k, .string (fd.extract 0 cn), .int .i64 (cn : Int)] 68) := ⟨_, rfl⟩
          have hF5 : Blk w5 w4.heap.size 68 #[.string k, .string (fd.extract 0 cn), .int .i64 (cn : Int)] := hw5 ▸ Blk.new _ _ _
          have T5 : Touch [] w4 w5 := hw5 ▸ (Touch.refl [] w4).alloc _
          have y0 : w5.cell? ⟨w4.heap.size, 0, none⟩ = some (.string k) := hF5.cell 0
          have y1 : w5.cell? ⟨w4.heap.size, 1, none⟩ = some (.string (fd.extract 0 cn)) := hF5.cell 1
          have y2 : w5.cell? ⟨w4.heap.size, 2, none⟩ = some (.int .i64 (cn : Int)) := hF5.cell 2
          rw [hw5] at y0 y1 y2
          have HW5 := Lib.hid hw5
          clear hw5
          go_wp2_with fail
          rw [← HW5.out]
          refine (rput_any w5 B b (n + 1) _ d1 (h4.touch T5 (by simp) (by simp)) (by omega) (Nat.le_trans hB3 T5.size) k (fd.extract 0 cn, cn) (by rw [HFL.out]; exact HFT.out)).mono ?_
          rintro e w6 ⟨rfl, v6, h6, t6⟩
          go_wp2_with fail
          go_ret
          rw [HFL.out] at h6
          exact ⟨rfl, v6, h6, t3.trans ((T5.mono (by simp)).trans t6 (fun k hk => .inl hk)) (fun k hk => .inl hk)⟩
        · have hmin : min ll cn = ll := by omega
          rw [hmin] at HFT ⊢
          clear hmin
          go_enter Tryz.func63, Tryz.ntmps63
          go_wp2_with fail
          refine HM.out.mono ?_
          rintro e w1 ⟨rfl, j, hw1⟩
          have t1 : Touch [] w w1 := hw1 ▸ Touch.drewN [] w j
          clear hw1
          go_wp2_with fail
          refine (HFN.out w1 t1).mono ?_
          rintro e w2 ⟨rfl, j2, hw2⟩
          have t2 : Touch [] w w2 := hw2 ▸ t1.drewN_ j2
          clear hw2 t1
          obtain ⟨c1, x0, x1, x2⟩ := HALL.out w2 t2
          go_wp2_with fail
          refine (HRS.out _ t2).mono ?_
          rintro e w4 ⟨rfl, h4, t3'⟩
          have t3 : Touch [b] w w4 := (t2.mono (by simp)).trans t3' (fun k hk => .inl hk)
          have hB3 : B ≤ w4.heap.size := Nat.le_trans HBB.out t3.size
          have hn1 := HN.out
          clear t3' t2 c1 x0 x1 x2
          obtain ⟨g', cap', hv', hi', x0, x1, x2⟩ := h4.file k (by rw [HFL.out]; exact HIS.out)
          rw [HFL.out, ← HIX.out] at x0 x1 x2
          rw [← HFD.out.1] at x1
          rw [← HFD.out.2] at x2
          have c1 := h4.c1
          rw [HFL.out] at hv'
          cases hv'
          obtain ⟨w5, hw5⟩ : ∃ w5, w5 = w4.alloc (.cells #[.string k, .string (fd.extract 0 cn), .int .i64 (ll : Int)] 68) := ⟨_, rfl⟩
          have hF5 : Blk w5 w4.heap.size 68 #[.string k, .string (fd.extract 0 cn), .int .i64 (ll : Int)] := hw5 ▸ Blk.new _ _ _
          have T5 : Touch [] w4 w5 := hw5 ▸ (Touch.refl [] w4).alloc _
          have y0 : w5.cell? ⟨w4.heap.size, 0, none⟩ = some (.string k) := hF5.cell 0
          have y1 : w5.cell? ⟨w4.heap.size, 1, none⟩ = some (.string (fd.extract 0 cn)) := hF5.cell 1
          have y2 : w5.cell? ⟨w4.heap.size, 2, none⟩ = some (.int .i64 (ll : Int)) := hF5.cell 2
          rw [hw5] at y0 y1 y2
          have HW5 := Lib.hid hw5
          clear hw5
          go_wp2_with fail
          rw [← HW5.out]
          refine (rput_any w5 B b (n + 1) _ d1 (h4.touch T5 (by simp) (by simp)) (by omega) (Nat.le_trans hB3 T5.size) k (fd.extract 0 cn, ll) (by rw [HFL.out]; exact HFT.out)).mono ?_
          rintro e w6 ⟨rfl, v6, h6, t6⟩
          go_wp2_with fail
          go_ret
          rw [HFL.out] at h6
          exact ⟨rfl, v6, h6, t3.trans ((T5.mono (by simp)).trans t6 (fun k hk => .inl hk)) (fun k hk => .inl hk)⟩
      · have hs14 : s1 = 14 := by rw [hs1]; exact hst2.resolve_left (by rw [← hs1]; exact hs0)
        rw [thn_no _ _ (by rw [← hs1]; exact hs0)]
        subst hs14
        clear hr he0 hst2 hs1 hrs hc hfd hll
        go_enter Tryz.func63, Tryz.ntmps63
        go_wp2_with fail
        refine HM.out.mono ?_
        rintro e w1 ⟨rfl, j, hw1⟩
        have t1 : Touch [] w w1 := hw1 ▸ Touch.drewN [] w j
        clear hw1
        go_wp2_with fail
        refine (HFN.out w1 t1).mono ?_
        rintro e w2 ⟨rfl, j2, hw2⟩
        have t2 : Touch [] w w2 := hw2 ▸ t1.drewN_ j2
        clear hw2 t1
        obtain ⟨c1, x0, x1, x2⟩ := HALL.out w2 t2
        go_wp2_with fail
        refine (HRS.out _ t2).mono ?_
        rintro e w3 ⟨rfl, h3, t3⟩
        go_wp2_with fail
        go_ret
        exact ⟨rfl, _, h3.more (by omega), (t2.mono (by simp)).trans t3 (fun k hk => .inl hk)⟩
  · have hr' : DM.cut d (nm k) c = (e0, d) := by rw [hr, if_neg (fun h => hz h.1), thn_err _ _ _ hz]
    rw [hr']
    have hz' : (e0 == 0) = false := by simpa using hz
    clear hr he0 hz h hr' hm hB
    go_enter Tryz.func63, Tryz.ntmps63
    go_wp2_with fail
    refine HM.out.mono ?_
    rintro e w' ⟨rfl, j, rfl⟩
    go_wp2_with fail
    go_ret
    exact REnds.quiet H.out rfl j
end Go.Proofs.YtmglkhnojimnlaaGreat

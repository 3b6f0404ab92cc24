/- Package fingerpostref09: Sync, Remove, Arm, New. -/
import Derived.Test.YtmglkhnojimnlaaGreatDiskRef3
namespace Go.Proofs.YtmglkhnojimnlaaGreat
open Go.RowKit Go.Maps Go.WideMaps
open DM (N F FL Sorted)

set_option maxRecDepth 10000 in
set_option maxHeartbeats 1600000 in
theorem rsync_any (w : World) (B b n : Nat) (v : Value) (d : DM.D) (h : RefAt w B b v n d) (hn : n < 1099511627773) (hB : B ≤ w.heap.size) (k : ByteArray) (hk : k.size ≤ maxLen) :
    Calls Tryz.prog 64 #[.pointer (some ⟨b, 0, none⟩), .string k] w (REnds B b n w (DM.sync d (nm k))) := by
  have hm := rmay_any w B b n v d h (by omega) k hk true
  obtain ⟨e0, he0⟩ : ∃ e0, e0 = DM.may1 d true (nm k) := ⟨_, rfl⟩
  rw [← he0] at hm
  have HM := Lib.hid hm
  have H := Lib.hid h
  have hr : DM.sync d (nm k) = DM.thn d e0 (fun l => DM.put l (nm k) ((DM.getF l (nm k)).1, (DM.getF l (nm k)).1.size)) := by unfold DM.sync; rw [← he0]
  rw [hr]
  by_cases hz : e0 = 0
  · subst hz
    obtain ⟨_, hk0, hk40, his⟩ := may1_zero he0.symm
    have HIS := Lib.hid (his rfl)
    have HFIT := Lib.hid h.fit
    have HBB := Lib.hid hB
    have HN := Lib.hid hn
    have hst2 := step_two d
    obtain ⟨s1, hs1⟩ : ∃ s1, s1 = (DM.step d).1 := ⟨_, rfl⟩
    have hrs : ∀ w1, Touch [] w w1 → Calls Tryz.prog 86 #[.pointer (some ⟨b, 0, none⟩)] w1 fun e w' => e = .returned (.int .i64 s1) ∧ RefAt w' B b v (n + 1) (DM.step d).2 ∧ Touch [b] w1 w' := fun w1 t1 => by
      rw [hs1]
      exact rstep_any w1 B b n v d (H.out.touch t1 (by simp) (by simp)) (by have := HN.out; omega)
    have HRS := Lib.hid hrs
    clear hm his h hB hn
    by_cases hs0 : s1 = 0
    · subst hs0
      rw [thn_yes _ _ hs1.symm]
      have hfl := (step_fl d).1
      obtain ⟨d1, hd1'⟩ : ∃ d1, d1 = (DM.step d).2 := ⟨_, rfl⟩
      rw [← hd1'] at HRS hfl ⊢
      obtain ⟨fd, hfd⟩ : ∃ fd, fd = (DM.getF d.fl (nm k)).1 := ⟨_, rfl⟩
      obtain ⟨ll, hll⟩ : ∃ ll, ll = (DM.getF d.fl (nm k)).2 := ⟨_, rfl⟩
      have hgs := (DM.sz_le d.fl (nm k))
      rw [← getF_size, ← hfd] at hgs
      have hfit : Fit (DM.put d.fl (nm k) (fd, fd.size)) (n + 2) := (Fit.mk HFIT.out.sorted (by have := HFIT.out.len; omega) HFIT.out.small HFIT.out.each : Fit d.fl (n + 1)).put (nm k) (fd, fd.size) (by rw [nm_size]; exact hk40) (Nat.le_refl _) (by
        have := DM.used_put d.fl (nm k) (fd, fd.size) HFIT.out.sorted
        have h2 := getF_size d.fl (nm k)
        rw [← hfd] at h2
        simp only at this
        have := HFIT.out.small
        omega)
      have HFT := Lib.hid hfit
      have hfd2 : (fd.size : Int) ≤ 1099511627776 := by have := HFIT.out.small; omega
      simp only [← hfd]
      have HFD := Lib.hid (And.intro hfd hll)
      have HFL := Lib.hid hfl
      obtain ⟨ix, hix⟩ : ∃ ix, ix = DM.idx d.fl (nm k) := ⟨_, rfl⟩
      have HIX := Lib.hid hix
      clear hr he0 hst2 hs1 hrs hd1' hfl hfit hgs hfd hll hix
      go_enter Tryz.func64, Tryz.ntmps64
      go_wp2_with fail
      refine HM.out.mono ?_
      rintro e w1 ⟨rfl, j, hw1⟩
      have t1 : Touch [] w w1 := hw1 ▸ Touch.drewN [] w j
      clear hw1
      go_wp2_with fail
      refine (HRS.out _ t1).mono ?_
      rintro e w2 ⟨rfl, h2, t2'⟩
      have t2 : Touch [b] w w2 := (t1.mono (by simp)).trans t2' (fun k hk => .inl hk)
      have hB2 : B ≤ w2.heap.size := Nat.le_trans HBB.out t2.size
      clear t2' t1
      have hn1 := HN.out
      have hfnd := rfind_any w2 B b (n + 1) v d1 h2 (by omega) k
      rw [HFL.out, ← HIX.out, HIS.out] at hfnd
      have HFN := Lib.hid hfnd
      clear hfnd
      go_wp2_with fail
      refine HFN.out.mono ?_
      rintro e w4 ⟨rfl, i, hw4⟩
      have T4 : Touch [] w2 w4 := hw4 ▸ Touch.drewN [] w2 i
      have h4 := h2.touch T4 (by simp) (by simp)
      clear hw4 HFN
      obtain ⟨g, cap, hv, hi, x0, x1, x2⟩ := h4.file k (by rw [HFL.out]; exact HIS.out)
      rw [HFL.out] at hi x0 x1 x2
      rw [← HIX.out] at hi x0 x1 x2
      rw [← HFD.out.1] at x1
      rw [← HFD.out.2] at x2
      subst hv
      have c1 := h4.c1
      have hlen := h4.fit.len
      have hlb : (d1.fl.length : Int) ≤ 1099511627776 := by omega
      rw [HFL.out] at c1 hlb
      obtain ⟨w5, hw5⟩ : ∃ w5, w5 = w4.alloc (.cells #[.string k, .string fd, .int .i64 (fd.size : Int)] 68) := ⟨_, rfl⟩
      have hF5 : Blk w5 w4.heap.size 68 #[.string k, .string fd, .int .i64 (fd.size : Int)] := hw5 ▸ Blk.new _ _ _
      have T5 : Touch [] w4 w5 := hw5 ▸ (Touch.refl [] w4).alloc _
      have y0 : w5.cell? ⟨w4.heap.size, 0, none⟩ = some (.string k) := hF5.cell 0
      have y1 : w5.cell? ⟨w4.heap.size, 1, none⟩ = some (.string fd) := hF5.cell 1
      have y2 : w5.cell? ⟨w4.heap.size, 2, none⟩ = some (.int .i64 (fd.size : Int)) := hF5.cell 2
      rw [hw5] at y0 y1 y2
      have HW5 := Lib.hid hw5
      clear hw5
      go_wp2_with fail
      rw [← HW5.out]
      have T25 := T4.trans T5 (by simp)
      refine (rput_any w5 B b (n + 1) _ d1 (h2.touch T25 (by simp) (by simp)) (by omega) (Nat.le_trans hB2 T25.size) k (fd, fd.size) (by rw [HFL.out]; exact HFT.out)).mono ?_
      rintro e w6 ⟨rfl, v6, h6, t6⟩
      go_wp2_with fail
      go_ret
      rw [HFL.out] at h6
      exact ⟨rfl, v6, h6, t2.trans ((T25.mono (by simp)).trans t6 (fun k hk => .inl hk)) (fun k hk => .inl hk)⟩
    · have hs14 : s1 = 14 := by rw [hs1]; exact hst2.resolve_left (by rw [← hs1]; exact hs0)
      rw [thn_no _ _ (by rw [← hs1]; exact hs0)]
      subst hs14
      clear hr he0 hst2 hs1 hrs
      go_enter Tryz.func64, Tryz.ntmps64
      go_wp2_with fail
      refine HM.out.mono ?_
      rintro e w1 ⟨rfl, j, hw1⟩
      have t1 : Touch [] w w1 := hw1 ▸ Touch.drewN [] w j
      clear hw1
      go_wp2_with fail
      refine (HRS.out _ t1).mono ?_
      rintro e w2 ⟨rfl, h2, t2⟩
      go_wp2_with fail
      go_ret
      exact ⟨rfl, v, h2.more (by omega), (t1.mono (by simp)).trans t2 (fun k hk => .inl hk)⟩
  · rw [thn_err _ _ _ hz]
    have hz' : (e0 == 0) = false := by simpa using hz
    clear hr he0 hz h hm hB
    go_enter Tryz.func64, Tryz.ntmps64
    go_wp2_with fail
    refine HM.out.mono ?_
    rintro e w' ⟨rfl, j, rfl⟩
    go_wp2_with fail
    go_ret
    exact REnds.quiet H.out rfl j

set_option maxRecDepth 10000 in
set_option maxHeartbeats 1600000 in
theorem rremove_any (w : World) (B b n : Nat) (v : Value) (d : DM.D) (h : RefAt w B b v n d) (hn : n < 1099511627773) (hB : B ≤ w.heap.size) (k : ByteArray) (hk : k.size ≤ maxLen) :
    Calls Tryz.prog 60 #[.pointer (some ⟨b, 0, none⟩), .string k] w (REnds B b n w (DM.remove d (nm k))) := by
  have hm := rmay_any w B b n v d h (by omega) k hk true
  obtain ⟨e0, he0⟩ : ∃ e0, e0 = DM.may1 d true (nm k) := ⟨_, rfl⟩
  rw [← he0] at hm
  have HM := Lib.hid hm
  have H := Lib.hid h
  have hr : DM.remove d (nm k) = DM.thn d e0 (fun l => DM.del l (nm k)) := by unfold DM.remove; rw [← he0]
  rw [hr]
  by_cases hz : e0 = 0
  · subst hz
    obtain ⟨_, hk0, hk40, his⟩ := may1_zero he0.symm
    have HIS := Lib.hid (his rfl)
    have HBB := Lib.hid hB
    have HN := Lib.hid hn
    have hst2 := step_two d
    obtain ⟨s1, hs1⟩ : ∃ s1, s1 = (DM.step d).1 := ⟨_, rfl⟩
    have hrs : ∀ w1, Touch [] w w1 → Calls Tryz.prog 86 #[.pointer (some ⟨b, 0, none⟩)] w1 fun e w' => e = .returned (.int .i64 s1) ∧ RefAt w' B b v (n + 1) (DM.step d).2 ∧ Touch [b] w1 w' := fun w1 t1 => by
      rw [hs1]
      exact rstep_any w1 B b n v d (H.out.touch t1 (by simp) (by simp)) (by have := HN.out; omega)
    have HRS := Lib.hid hrs
    clear hm his h hB hn
    by_cases hs0 : s1 = 0
    · subst hs0
      rw [thn_yes _ _ hs1.symm]
      have hfl := (step_fl d).1
      obtain ⟨d1, hd1'⟩ : ∃ d1, d1 = (DM.step d).2 := ⟨_, rfl⟩
      rw [← hd1'] at HRS hfl ⊢
      have HFL := Lib.hid hfl
      clear hr he0 hst2 hs1 hrs hd1' hfl
      go_enter Tryz.func60, Tryz.ntmps60
      go_wp2_with fail
      refine HM.out.mono ?_
      rintro e w1 ⟨rfl, j, hw1⟩
      have t1 : Touch [] w w1 := hw1 ▸ Touch.drewN [] w j
      clear hw1
      go_wp2_with fail
      refine (HRS.out _ t1).mono ?_
      rintro e w2 ⟨rfl, h2, t2'⟩
      have t2 : Touch [b] w w2 := (t1.mono (by simp)).trans t2' (fun k hk => .inl hk)
      have hB2 : B ≤ w2.heap.size := Nat.le_trans HBB.out t2.size
      have hn1 := HN.out
      clear t2' t1
      go_wp2_with fail
      refine (rdrop_any w2 B b (n + 1) _ d1 h2 (by omega) hB2 k (by rw [HFL.out]; exact HIS.out)).mono ?_
      rintro e w6 ⟨rfl, v6, h6, t6, _⟩
      go_wp2_with fail
      go_ret
      rw [HFL.out] at h6
      exact ⟨rfl, v6, h6.more (by omega), t2.trans t6 (fun k hk => .inl hk)⟩
    · have hs14 : s1 = 14 := by rw [hs1]; exact hst2.resolve_left (by rw [← hs1]; exact hs0)
      rw [thn_no _ _ (by rw [← hs1]; exact hs0)]
      subst hs14
      clear hr he0 hst2 hs1 hrs
      go_enter Tryz.func60, Tryz.ntmps60
      go_wp2_with fail
      refine HM.out.mono ?_
      rintro e w1 ⟨rfl, j, hw1⟩
      have t1 : Touch [] w w1 := hw1 ▸ Touch.drewN [] w j
      clear hw1
      go_wp2_with fail
      refine (HRS.out _ t1).mono ?_
      rintro e w2 ⟨rfl, h2, t2⟩
      go_wp2_with fail
      go_ret
      exact ⟨rfl, v, h2.more (by omega), (t1.mono (by simp)).trans t2 (fun k hk => .inl hk)⟩
  · rw [thn_err _ _ _ hz]
    have hz' : (e0 == 0) = false := by simpa using hz
    clear hr he0 hz h hm hB
    go_enter Tryz.func60, Tryz.ntmps60
    go_wp2_with fail
    refine HM.out.mono ?_
    rintro e w' ⟨rfl, j, rfl⟩
    go_wp2_with fail
    go_ret
    exact REnds.quiet H.out rfl j

theorem rkept_any (k : Int) (w : World) : Calls Tryz.prog 23 #[.int .i64 k] w fun e w' => e = .returned (.int .i64 (max k 0)) ∧ w' = w := by
  by_cases h : k < 0
  · rw [show max k 0 = 0 by omega]
    go_enter Tryz.func23, Tryz.ntmps23
    go_wp2
    go_ret
    exact ⟨rfl, rfl⟩
  · rw [show max k 0 = k by omega]
    go_enter Tryz.func23, Tryz.ntmps23
    go_wp2
    go_ret
    exact ⟨rfl, rfl⟩
theorem rnew_any (r : Int) (hr : (Lit.int .i64 r).wf = true) (w : World) (B : Nat) :
    Calls Tryz.prog 6 #[.int .i64 r] w fun e w' => e = .returned (.pointer (some ⟨w.heap.size, 0, none⟩)) ∧ RefAt w' B w.heap.size (.slice none 0 0) 0 (DM.new r) ∧ Touch [] w w' := by
  have hb := (wf64_le hr).2
  go_enter Tryz.func6, Tryz.ntmps6
  go_wp2_with fail
  refine (rkept_any _ _).mono ?_
  rintro e w' ⟨rfl, rfl⟩
  go_wp2_with fail
  go_ret
  refine ⟨rfl, ⟨⟨false, 0, Blk.new _ _ _, .inl ⟨rfl, rfl, by omega, by omega⟩⟩, ?_, ⟨by simp [DM.new], by simp [DM.new]⟩, World.ownsRow_nil _ _ _ _, ⟨DM.Sorted.nil, by simp [DM.new], by simp [DM.new, DM.used], by simp [DM.new]⟩⟩, (Touch.refl [] _).alloc _⟩
  simp only [DM.new]
  omega
theorem rarm_any (w : World) (B b n : Nat) (v : Value) (d : DM.D) (h : RefAt w B b v n d) (k : Int) (hk : (Lit.int .i64 k).wf = true) :
    Calls Tryz.prog 28 #[.pointer (some ⟨b, 0, none⟩), .int .i64 k] w fun e w' => e = .returned (.tuple #[]) ∧ RefAt w' B b v n (DM.arm d k) ∧ Touch [b] w w' := by
  obtain ⟨armed, left, hb, hl⟩ := h.blk
  have hk1 := (wf64_le hk).2
  have c3 : w.cell? ⟨b, 3, none⟩ = some (.bool armed) := hb.cell 3
  have f3 := hb.frozen 3
  have hb4 := hb.set_ 3 (.bool true)
  have c4 : (w.setCell ⟨b, 3, none⟩ (.bool true)).cell? ⟨b, 4, none⟩ = some (.int .i64 left) := hb4.cell 4
  have f4 := hb4.frozen 4
  go_enter Tryz.func28, Tryz.ntmps28
  go_wp2_with fail
  refine (rkept_any _ _).mono ?_
  rintro e w' ⟨rfl, rfl⟩
  go_wp2_with fail
  go_end0
  have ht : Touch [b] w ((w.setCell ⟨b, 3, none⟩ (.bool true)).setCell ⟨b, 4, none⟩ (.int .i64 (max k 0))) := ((Touch.refl _ _).setCell _ _ (.inl (by simp))).setCell _ _ (.inl (by simp))
  refine ⟨rfl, h.own ht ⟨true, max k 0, hb4.set_ 4 _, .inr ⟨rfl, by omega, by omega, ?_, ?_, ?_⟩⟩ h.room h.done rfl (Nat.le_refl _), ht⟩
  · simp only [DM.arm]; omega
  · simp only [DM.arm]; omega
  · simp only [DM.arm]
    by_cases hc : max k 0 ≤ 4611686018427387904
    · left; omega
    · right; omega
end Go.Proofs.YtmglkhnojimnlaaGreat

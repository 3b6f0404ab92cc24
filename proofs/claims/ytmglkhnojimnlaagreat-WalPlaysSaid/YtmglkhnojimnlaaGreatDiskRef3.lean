/- Package fingerpostref09: Read, Append, Sync, Remove, Rename, Cut, Arm, New. -/
import Derived.Test.YtmglkhnojimnlaaGreatDiskRef2
namespace Go.Proofs.YtmglkhnojimnlaaGreat
open Go.RowKit Go.Maps Go.WideMaps
open DM (N F FL Sorted)

def REnds (B b n : Nat) (w : World) (r : Int × DM.D) (e : Ending) (w' : World) : Prop := e = .returned (.int .i64 r.1) ∧ ∃ v', RefAt w' B b v' (n + 2) r.2 ∧ Touch [b] w w'
theorem REnds.quiet {B b n : Nat} {w : World} {v : Value} {d : DM.D} {e : Ending} {i : Int} (h : RefAt w B b v n d) (he : e = .returned (.int .i64 i)) (j : Nat) : REnds B b n w (i, d) e (w.drewN j) :=
  ⟨he, v, (h.touch (Touch.drewN [] w j) (by simp) (by simp)).more (by omega), Touch.drewN [b] w j⟩
theorem REnds.still {B b n : Nat} {w w1 : World} {v : Value} {d : DM.D} {e : Ending} {i : Int} (h : RefAt w1 B b v n d) (ht : Touch [] w w1) (he : e = .returned (.int .i64 i)) : REnds B b n w (i, d) e w1 :=
  ⟨he, v, h.more (by omega), ht.mono (by simp)⟩
theorem step_two (d : DM.D) : (DM.step d).1 = 0 ∨ (DM.step d).1 = 14 := by
  unfold DM.step
  split
  · exact .inr rfl
  · exact .inl rfl
theorem step_fl (d : DM.D) : (DM.step d).2.fl = d.fl ∧ (DM.step d).2.room = d.room := by
  unfold DM.step
  split <;> exact ⟨rfl, rfl⟩
theorem thn_err (d : DM.D) (e : Int) (f : FL → FL) (h : e ≠ 0) : DM.thn d e f = (e, d) := by unfold DM.thn; rw [if_neg h]
theorem thn_no (d : DM.D) (f : FL → FL) (h : (DM.step d).1 ≠ 0) : DM.thn d 0 f = (14, (DM.step d).2) := by
  unfold DM.thn
  rw [if_pos rfl, if_neg h]
  have := (step_two d).resolve_left h
  rw [← this]
theorem thn_yes (d : DM.D) (f : FL → FL) (h : (DM.step d).1 = 0) : DM.thn d 0 f = (0, { (DM.step d).2 with fl := f d.fl }) := by
  unfold DM.thn
  rw [if_pos rfl, if_pos h, (step_fl d).1]
/-- a file's cells -/
theorem RefAt.file {w : World} {B b n : Nat} {v : Value} {d : DM.D} (h : RefAt w B b v n d) (k : ByteArray) (his : (DM.look d.fl (nm k)).isSome = true) :
    ∃ g cap, v = .slice (some ⟨g, 0, none⟩) d.fl.length cap ∧ DM.idx d.fl (nm k) < d.fl.length ∧ w.cell? ⟨g, DM.idx d.fl (nm k) * 3, none⟩ = some (.string k) ∧ w.cell? ⟨g, DM.idx d.fl (nm k) * 3 + 1, none⟩ = some (.string (DM.getF d.fl (nm k)).1) ∧ w.cell? ⟨g, DM.idx d.fl (nm k) * 3 + 2, none⟩ = some (.int .i64 ((DM.getF d.fl (nm k)).2 : Int)) := by
  obtain ⟨hi, he⟩ := DM.at_idx h.fit.sorted (nm k) his
  obtain ⟨a, cap, hv, _, _, h0, hop⟩ := h.open
  cases a with
  | none => have := (h0 rfl).1; omega
  | some ad =>
    obtain ⟨g, o, sp⟩ := ad
    obtain ⟨rfl, rfl, _, _, _, hcl⟩ := hop g o sp rfl
    have := hcl _ hi
    rw [he, str_nm] at this
    exact ⟨g, cap, hv, hi, this⟩

set_option maxRecDepth 10000 in
set_option maxHeartbeats 800000 in
theorem rread_any (w : World) (B b n : Nat) (v : Value) (d : DM.D) (h : RefAt w B b v n d) (hn : n < 1099511627775) (k : ByteArray) (hk : k.size ≤ maxLen) :
    Calls Tryz.prog 61 #[.pointer (some ⟨b, 0, none⟩), .string k] w fun e w' => e = .returned (.tuple #[.string (DM.read d (nm k)).1, .int .i64 (DM.read d (nm k)).2]) ∧ ∃ j, w' = w.drewN j := by
  have hm := rmay_any w B b n v d h (by omega) k hk true
  obtain ⟨e0, he0⟩ : ∃ e0, e0 = DM.may1 d true (nm k) := ⟨_, rfl⟩
  rw [← he0] at hm
  have HM := Lib.hid hm
  clear hm
  by_cases hz : e0 = 0
  · subst hz
    obtain ⟨_, _, _, his⟩ := may1_zero he0.symm
    obtain ⟨g, cap, hv, hi, x0, x1, x2⟩ := h.file k (his rfl)
    have hr : DM.read d (nm k) = ((DM.getF d.fl (nm k)).1, 0) := by unfold DM.read; rw [if_pos he0.symm]
    rw [hr]
    subst hv
    have hf := fun j => rfind_any (w.drewN j) B b n _ d (h.touch (Touch.drewN [] w j) (by simp) (by simp)) (by omega) k
    have HF := Lib.hid hf
    have c1 := h.c1
    obtain ⟨ix, hix⟩ : ∃ ix, ix = DM.idx d.fl (nm k) := ⟨_, rfl⟩
    obtain ⟨fd, hfd⟩ : ∃ fd, fd = (DM.getF d.fl (nm k)).1 := ⟨_, rfl⟩
    rw [← hix] at hi x1 HF
    rw [← hfd] at x1 ⊢
    have hc1 : ∀ j, (w.drewN j).cell? ⟨b, 1, none⟩ = some (.slice (some ⟨g, 0, none⟩) d.fl.length cap) := fun j => c1
    have hx1 : ∀ j, (w.drewN j).cell? ⟨g, ix * 3 + 1, none⟩ = some (.string fd) := fun j => x1
    have HC1 := Lib.hid hc1
    have HX1 := Lib.hid hx1
    have hlen := h.fit.len
    have hlb : (d.fl.length : Int) ≤ 1099511627776 := by omega
    clear hf hr his he0 hix hfd x0 x1 x2 hc1 hx1 hlen
    go_enter Tryz.func61, Tryz.ntmps61
    go_wp2_with fail
    refine HM.out.mono ?_
    rintro e w' ⟨rfl, j, rfl⟩
    go_wp2_with fail
    refine (HF.out j).mono ?_
    rintro e w' ⟨rfl, i, rfl⟩
    have y0 := HC1.out (j + i)
    have y1 := HX1.out (j + i)
    go_wp2_with fail
    go_ret2
    exact ⟨rfl, j + i, rfl⟩
  · have hzz := hz
    have hr : DM.read d (nm k) = (⟨#[]⟩, e0) := by unfold DM.read; rw [if_neg (by rw [← he0]; exact hz), ← he0]
    rw [hr]
    have hz' : (e0 == 0) = false := by simpa using hz
    clear hr he0 h
    go_enter Tryz.func61, Tryz.ntmps61
    go_wp2_with fail
    refine HM.out.mono ?_
    rintro e w' ⟨rfl, j, rfl⟩
    go_wp2_with fail
    go_ret2
    exact ⟨rfl, j, rfl⟩

theorem getF_none {l : FL} {k : N} (h : (DM.look l k).isSome = false) : DM.getF l k = (⟨#[]⟩, 0) := by
  unfold DM.getF
  cases hl : DM.look l k with
  | none => rfl
  | some f => rw [hl] at h; cases h
set_option maxRecDepth 10000 in
set_option maxHeartbeats 1600000 in
theorem rappend_any (w : World) (B b n : Nat) (v : Value) (d : DM.D) (h : RefAt w B b v n d) (hn : n < 1099511627773) (hB : B ≤ w.heap.size) (k s : ByteArray) (hk : k.size ≤ maxLen) (hu : DM.used d.fl + s.size ≤ 1099511627776) :
    Calls Tryz.prog 67 #[.pointer (some ⟨b, 0, none⟩), .string k, .string s] w (REnds B b n w (DM.append d (nm k) s)) := by
  have hm := rmay_any w B b n v d h (by omega) k hk false
  obtain ⟨e0, he0⟩ : ∃ e0, e0 = DM.may1 d false (nm k) := ⟨_, rfl⟩
  rw [← he0] at hm
  have HM := Lib.hid hm
  have H := Lib.hid h
  have hr : DM.append d (nm k) s = if e0 = 0 ∧ d.room - DM.used d.fl < s.size then (15, d) else DM.thn d e0 (fun l => DM.put l (nm k) ((DM.getF l (nm k)).1 ++ s, (DM.getF l (nm k)).2)) := by unfold DM.append; simp only [← he0]
  by_cases hz : e0 = 0
  · subst hz
    obtain ⟨_, hk0, hk40, _⟩ := may1_zero he0.symm
    obtain ⟨ro1, ro2⟩ := h.room
    have hused := fun (w1 : World) (t1 : Touch [] w w1) (jj : Nat) => rused_any (w1.drewN jj) B b n v d (h.touch (t1.drewN_ jj) (by simp) (by simp)) (by omega)
    have HUS := Lib.hid hused
    have hub1 : (DM.used d.fl : Int) ≤ 1099511627776 := by omega
    have hub2 : (s.size : Int) ≤ 1099511627776 := by omega
    have hwr : IntKind.i64.wrap ((DM.used d.fl : Int) + (s.size : Int)) = (DM.used d.fl : Int) + (s.size : Int) := IntWalk.i64_in _ (by omega)
    have HWR := Lib.hid hwr
    have HFIT := Lib.hid h.fit
    have HBB := Lib.hid hB
    have HN := Lib.hid hn
    have HU := Lib.hid hu
    clear hm hused hwr h hB hn
    obtain ⟨us, hus⟩ : ∃ us, us = DM.used d.fl := ⟨_, rfl⟩
    rw [← hus] at HUS HWR hub1 hr hu
    by_cases hc : d.room - (us : Int) < (s.size : Int)
    · rw [hr, if_pos ⟨rfl, hc⟩]
      have hd1 : decide (d.room < (us : Int) + (s.size : Int)) = true := by simp; omega
      clear hr he0 hus hu hc
      go_enter Tryz.func67, Tryz.ntmps67
      go_wp2_with fail
      refine HM.out.mono ?_
      rintro e w1 ⟨rfl, j, hw1⟩
      have t1 : Touch [] w w1 := hw1 ▸ Touch.drewN [] w j
      have h1 := H.out.touch t1 (by simp) (by simp)
      have c0 := h1.c0
      have hus1 := HUS.out w1 t1
      have HUS1 := Lib.hid hus1
      clear hus1 hw1
      go_wp2_with fail
      go_quiet ((go_at_call 11; exact Calls.quiet_of (HUS1.out _)))
      go_wp2_with fail
      go_ret
      exact REnds.still (h1.touch (Touch.drewN [] w1 _) (by simp) (by simp)) (t1.drewN_ _) rfl
    · rw [hr, if_neg (fun h => hc h.2)]
      have hd1 : decide (d.room < (us : Int) + (s.size : Int)) = false := by simp; omega
      have hst2 := step_two d
      obtain ⟨s1, hs1⟩ : ∃ s1, s1 = (DM.step d).1 := ⟨_, rfl⟩
      have hrs : ∀ w1, Touch [] w w1 → Calls Tryz.prog 86 #[.pointer (some ⟨b, 0, none⟩)] w1 fun e w' => e = .returned (.int .i64 s1) ∧ RefAt w' B b v (n + 1) (DM.step d).2 ∧ Touch [b] w1 w' := fun w1 t1 => by
        rw [hs1]
        exact rstep_any w1 B b n v d (H.out.touch t1 (by simp) (by simp)) (by have := HN.out; omega)
      have HRS := Lib.hid hrs
      have HS1 := Lib.hid hs1
      by_cases hs0 : s1 = 0
      · subst hs0
        rw [thn_yes _ _ hs1.symm]
        have hfl := (step_fl d).1
        obtain ⟨d1, hd1'⟩ : ∃ d1, d1 = (DM.step d).2 := ⟨_, rfl⟩
        rw [← hd1'] at HRS hfl ⊢
        obtain ⟨fd, hfd⟩ : ∃ fd, fd = (DM.getF d.fl (nm k)).1 := ⟨_, rfl⟩
        obtain ⟨ll, hll⟩ : ∃ ll, ll = (DM.getF d.fl (nm k)).2 := ⟨_, rfl⟩
        have hgl := HFIT.out.getF (nm k)
        have hgs := (DM.sz_le d.fl (nm k))
        rw [← getF_size, ← hfd] at hgs
        rw [← hfd, ← hll] at hgl
        have hcat : (fd ++ s).size = fd.size + s.size := ByteArray.size_append
        have hfit : Fit (DM.put d.fl (nm k) (fd ++ s, ll)) (n + 2) := (Fit.mk HFIT.out.sorted (by have := HFIT.out.len; omega) HFIT.out.small HFIT.out.each : Fit d.fl (n + 1)).put (nm k) (fd ++ s, ll) (by rw [nm_size]; exact hk40) (by simp only; omega) (by
          have := DM.used_app d.fl (nm k) s ll HFIT.out.sorted
          rw [← hfd] at this
          rw [this]; exact HU.out)
        have HFT := Lib.hid hfit
        have hfd2 : (fd.size : Int) ≤ 1099511627776 := by have := HFIT.out.small; omega
        simp only [← hfd, ← hll]
        have HFD := Lib.hid (And.intro hfd hll)
        have HFL := Lib.hid hfl
        clear hr he0 hus hu hc hst2 hs1 hrs HS1 hd1' hfl hfit hgl hgs hcat hfd hll
        go_enter Tryz.func67, Tryz.ntmps67
        go_wp2_with fail
        refine HM.out.mono ?_
        rintro e w1 ⟨rfl, j, hw1⟩
        have t1 : Touch [] w w1 := hw1 ▸ Touch.drewN [] w j
        have h1 := H.out.touch t1 (by simp) (by simp)
        have c0 := h1.c0
        have hus1 := HUS.out w1 t1
        have HUS1 := Lib.hid hus1
        clear hus1 hw1
        go_wp2_with fail
        go_quiet ((go_at_call 11; exact Calls.quiet_of (HUS1.out _)))
        go_wp2_with fail
        refine (HRS.out _ (t1.drewN_ _)).mono ?_
        rintro e w2 ⟨rfl, h2, t2'⟩
        have t2 : Touch [b] w w2 := ((t1.drewN_ _).mono (by simp)).trans t2' (fun k hk => .inl hk)
        have hB2 : B ≤ w2.heap.size := Nat.le_trans HBB.out t2.size
        clear t2' h1 t1 c0 HUS1 hd1
        have hn1 := HN.out
        have hfnd := rfind_any (w2.alloc (.cells #[.string k, .string ⟨#[]⟩, .int .i64 0] 68)) B b (n + 1) v d1 (h2.touch ((Touch.refl [] w2).alloc _) (by simp) (by simp)) (by omega) k
        obtain ⟨ix, hix⟩ : ∃ ix, ix = DM.idx d.fl (nm k) := ⟨_, rfl⟩
        obtain ⟨is, his⟩ : ∃ is, is = (DM.look d.fl (nm k)).isSome := ⟨_, rfl⟩
        have HIX := Lib.hid hix
        have HIS := Lib.hid his
        rw [HFL.out, ← hix, ← his] at hfnd
        clear hix his
        have HFN := Lib.hid hfnd
        have hF := Blk.new w2 68 #[.string k, .string ⟨#[]⟩, .int .i64 0]
        have T3 : Touch [] w2 (w2.alloc (.cells #[.string k, .string ⟨#[]⟩, .int .i64 0] 68)) := (Touch.refl [] w2).alloc _
        clear hfnd
        go_wp2_with fail
        refine HFN.out.mono ?_
        rintro e w4 ⟨rfl, i, hw4⟩
        have T4 : Touch [] w2 w4 := hw4 ▸ T3.drewN_ i
        have hF4 : Blk w4 w2.heap.size 68 #[.string k, .string ⟨#[]⟩, .int .i64 0] := hw4 ▸ hF.drewN i
        have h4 := h2.touch T4 (by simp) (by simp)
        clear hw4 hF T3 HFN
        have q0 : w4.cell? ⟨w2.heap.size, 0, none⟩ = some (.string k) := hF4.cell 0
        have q1 : w4.cell? ⟨w2.heap.size, 1, none⟩ = some (.string ⟨#[]⟩) := hF4.cell 1
        have q2 : w4.cell? ⟨w2.heap.size, 2, none⟩ = some (.int .i64 0) := hF4.cell 2
        have q0' := hF4.frozen 0
        have q1' := hF4.frozen 1
        have q2' := hF4.frozen 2
        cases is with
        | false =>
          have hg0 := getF_none HIS.out.symm
          have e1 := HFD.out.1
          have e2 := HFD.out.2
          rw [hg0] at e1 e2
          simp only at e1 e2
          subst e2
          have hnil : (⟨#[]⟩ : ByteArray) ++ s = fd ++ s := by rw [e1]
          obtain ⟨w5, hw5⟩ : ∃ w5, w5 = w4.setCell ⟨w2.heap.size, 1, none⟩ (.string (fd ++ s)) := ⟨_, rfl⟩
          have hF5 : Blk w5 w2.heap.size 68 #[.string k, .string (fd ++ s), .int .i64 0] := hw5 ▸ hF4.set_ 1 _
          have T5 : Touch [] w2 w5 := hw5 ▸ T4.setCell _ _ (.inr (Nat.le_refl _))
          have y0 : w5.cell? ⟨w2.heap.size, 0, none⟩ = some (.string k) := hF5.cell 0
          have y1 : w5.cell? ⟨w2.heap.size, 1, none⟩ = some (.string (fd ++ s)) := hF5.cell 1
          have y2 : w5.cell? ⟨w2.heap.size, 2, none⟩ = some (.int .i64 0) := hF5.cell 2
          rw [hw5] at y0 y1 y2
          have HW5 := Lib.hid hw5
          clear hg0 e1 hw5
          go_wp2_with fail
          rw [← HW5.out]
          refine (rput_any w5 B b (n + 1) _ d1 (h2.touch T5 (by simp) (by simp)) (by omega) (Nat.le_trans hB2 T5.size) k (fd ++ s, 0) (by rw [HFL.out]; exact HFT.out)).mono ?_
          rintro e w6 ⟨rfl, v6, h6, t6⟩
          go_wp2_with fail
          go_ret
          rw [HFL.out] at h6
          exact ⟨rfl, v6, h6, t2.trans ((T5.mono (by simp)).trans t6 (fun k hk => .inl hk)) (fun k hk => .inl hk)⟩
        | true =>
          obtain ⟨g, cap, hv, hi, x0, x1, x2⟩ := h4.file k (by rw [HFL.out]; exact HIS.out.symm)
          rw [HFL.out] at hi x0 x1 x2
          rw [← HIX.out] at hi x0 x1 x2
          rw [← HFD.out.1] at x1
          rw [← HFD.out.2] at x2
          subst hv
          have c1 := h4.c1
          have hlen := h4.fit.len
          have hlb : (d1.fl.length : Int) ≤ 1099511627776 := by omega
          rw [HFL.out] at c1 hlb
          obtain ⟨w5, hw5⟩ : ∃ w5, w5 = (((w4.setCell ⟨w2.heap.size, 0, none⟩ (.string k)).setCell ⟨w2.heap.size, 1, none⟩ (.string fd)).setCell ⟨w2.heap.size, 2, none⟩ (.int .i64 ll)).setCell ⟨w2.heap.size, 1, none⟩ (.string (fd ++ s)) := ⟨_, rfl⟩
          have hF5 : Blk w5 w2.heap.size 68 #[.string k, .string (fd ++ s), .int .i64 (ll : Int)] := hw5 ▸ (((hF4.set_ 0 _).set_ 1 _).set_ 2 _).set_ 1 _
          have T5 : Touch [] w2 w5 := hw5 ▸ (((T4.setCell _ _ (.inr (Nat.le_refl _))).setCell _ _ (.inr (Nat.le_refl _))).setCell _ _ (.inr (Nat.le_refl _))).setCell _ _ (.inr (Nat.le_refl _))
          have y0 : w5.cell? ⟨w2.heap.size, 0, none⟩ = some (.string k) := hF5.cell 0
          have y1 : w5.cell? ⟨w2.heap.size, 1, none⟩ = some (.string (fd ++ s)) := hF5.cell 1
          have y2 : w5.cell? ⟨w2.heap.size, 2, none⟩ = some (.int .i64 (ll : Int)) := hF5.cell 2
          rw [hw5] at y0 y1 y2
          have HW5 := Lib.hid hw5
          clear hw5
          go_wp2_with fail
          rw [← HW5.out]
          refine (rput_any w5 B b (n + 1) _ d1 (h2.touch T5 (by simp) (by simp)) (by omega) (Nat.le_trans hB2 T5.size) k (fd ++ s, ll) (by rw [HFL.out]; exact HFT.out)).mono ?_
          rintro e w6 ⟨rfl, v6, h6, t6⟩
          go_wp2_with fail
          go_ret
          rw [HFL.out] at h6
          exact ⟨rfl, v6, h6, t2.trans ((T5.mono (by simp)).trans t6 (fun k hk => .inl hk)) (fun k hk => .inl hk)⟩
      · have hs14 : s1 = 14 := by rw [hs1]; exact hst2.resolve_left (by rw [← hs1]; exact hs0)
        rw [thn_no _ _ (by rw [← hs1]; exact hs0)]
        subst hs14
        clear hr he0 hus hu hc hst2 hs1 hrs HS1
        go_enter Tryz.func67, Tryz.ntmps67
        go_wp2_with fail
        refine HM.out.mono ?_
        rintro e w1 ⟨rfl, j, hw1⟩
        have t1 : Touch [] w w1 := hw1 ▸ Touch.drewN [] w j
        have h1 := H.out.touch t1 (by simp) (by simp)
        have c0 := h1.c0
        have hus1 := HUS.out w1 t1
        have HUS1 := Lib.hid hus1
        clear hus1 hw1
        go_wp2_with fail
        go_quiet ((go_at_call 11; exact Calls.quiet_of (HUS1.out _)))
        go_wp2_with fail
        refine (HRS.out _ (t1.drewN_ _)).mono ?_
        rintro e w2 ⟨rfl, h2, t2⟩
        go_wp2_with fail
        go_ret
        exact ⟨rfl, v, h2.more (by omega), ((t1.drewN_ _).mono (by simp)).trans t2 (fun k hk => .inl hk)⟩
  · have hr' : DM.append d (nm k) s = (e0, d) := by rw [hr, if_neg (fun h => hz h.1), thn_err _ _ _ hz]
    rw [hr']
    have hz' : (e0 == 0) = false := by simpa using hz
    clear hr he0 hz h hr' hm hu hB
    go_enter Tryz.func67, Tryz.ntmps67
    go_wp2_with fail
    refine HM.out.mono ?_
    rintro e w' ⟨rfl, j, rfl⟩
    go_wp2_with fail
    go_ret
    exact REnds.quiet H.out rfl j
end Go.Proofs.YtmglkhnojimnlaaGreat

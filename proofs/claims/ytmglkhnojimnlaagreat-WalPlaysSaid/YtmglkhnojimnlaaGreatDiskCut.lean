/- Package disk: Cut. -/
import Derived.Test.YtmglkhnojimnlaaGreatDiskAppend
namespace Go.Proofs.YtmglkhnojimnlaaGreat
open Go.RowKit Go.Maps Go.WideMaps
open DM (N F FL Sorted)

set_option maxRecDepth 10000 in
set_option maxHeartbeats 800000 in
theorem cut_any (w : World) (b n : Nat) (mo : Option Nat) (d : DM.D) (h : DiskAt w b mo n d) (hn : n < 1099511627775) (k : ByteArray) (hk : k.size ≤ maxLen) (c : Int) (hcw : (Lit.int .i64 c).wf = true) :
    Calls Tryz.prog 45 #[.pointer (some ⟨b, 0, none⟩), .string k, .int .i64 c] w (Ends b n mo w (DM.cut d (nm k) c)) := by
  obtain ⟨w1, hw1⟩ : ∃ w1, w1 = ((w.alloc (.cells #[.pointer (some ⟨b, 0, none⟩)] 25)).alloc (.cells #[.string k] 9)).alloc (.cells #[.int .i64 c] 3) := ⟨_, rfl⟩
  have T1 : Touch [] w w1 := by rw [hw1]; exact (((Touch.refl [] w).alloc _).alloc _).alloc _
  have hB0 : Blk w1 w.heap.size 25 #[.pointer (some ⟨b, 0, none⟩)] := by rw [hw1]; exact ((Blk.new w _ _).alloc _).alloc _
  have hB1 : Blk w1 (w.heap.size + 1) 9 #[.string k] := by rw [hw1]; exact (Blk.new' _ _ _ (by simp)).alloc _
  have hB2 : Blk w1 (w.heap.size + 1 + 1) 3 #[.int .i64 c] := by rw [hw1]; exact Blk.new' _ _ _ (by simp)
  have hs1 : w1.heap.size = w.heap.size + 1 + 1 + 1 := by rw [hw1]; simp
  have h1 := h.touch T1 (by simp) (by simp)
  have x0 := hB0.cell 0
  have x1 := hB1.cell 0
  have x2 := hB2.cell 0
  obtain ⟨w2, hw2⟩ : ∃ w2, w2 = w1.alloc (.cells #[.string k] 9) := ⟨_, rfl⟩
  have T2 : Touch [] w1 w2 := by rw [hw2]; exact (Touch.refl [] w1).alloc _
  have hB3 : Blk w2 w1.heap.size 9 #[.string k] := by rw [hw2]; exact Blk.new' _ _ _ rfl
  have hmay := may1_any w2 b mo n d (h1.touch T2 (by simp) (by simp)) w1.heap.size k (hB3.cell 0) true hk
  have hb := h.blk.lt
  obtain ⟨e, he⟩ : ∃ e, e = DM.may1 d true (nm k) := ⟨_, rfl⟩
  have hthen : (e = 0 → 0 ≤ c ∧ c ≤ (DM.getF d.fl (nm k)).1.size) → ∀ w3, Touch [] w1 w3 → Calls Tryz.prog 77 #[.pointer (some ⟨b, 0, none⟩), .int .i64 e, .func (.func 78) #[] #[.pointer (some ⟨w.heap.size, 0, none⟩), .pointer (some ⟨w.heap.size + 1, 0, none⟩), .pointer (some ⟨w.heap.size + 1 + 1, 0, none⟩)]] w3 (Ends b n mo w3 (DM.thn d e (fun l => DM.put l (nm k) ((DM.getF l (nm k)).1.extract 0 c.toNat, min (DM.getF l (nm k)).2 c.toNat)))) := fun hc w3 T3 => by
    refine then_any w3 b n mo d (h1.touch T3 (by simp) (by simp)) (by omega) _ _ _ _ (fun _ _ => rfl) (fun he0 w4 d1 hd1 hfl T4 => ?_)
    have hz := may1_zero (he ▸ he0)
    have hc2 := hc he0
    have hcc : (c.toNat : Int) = c := by omega
    refine cutDo w4 b (n + 1) mo d1 hd1 (by omega) _ _ _ k c.toNat (T4.cell (T3.cell x0 (by simp)) (by simp; omega)) (T4.cell (T3.cell x1 (by simp)) (by simp; omega)) ?_ hz.2.2.1 (by rw [hfl]; omega)
    rw [hcc]
    exact T4.cell (T3.cell x2 (by simp)) (by simp; omega)
  have HT := Lib.hid hthen
  rw [← he, hw2, hs1] at hmay
  have HM := Lib.hid hmay
  have hr : DM.cut d (nm k) c = if e = 0 ∧ (c < 0 ∨ ((DM.getF d.fl (nm k)).1.size : Int) < c) then (1, d) else DM.thn d e (fun l => DM.put l (nm k) ((DM.getF l (nm k)).1.extract 0 c.toNat, min (DM.getF l (nm k)).2 c.toNat)) := by unfold DM.cut; simp only [← he]
  obtain ⟨rt, hrt⟩ : ∃ rt, rt = DM.thn d e (fun l => DM.put l (nm k) ((DM.getF l (nm k)).1.extract 0 c.toNat, min (DM.getF l (nm k)).2 c.toNat)) := ⟨_, rfl⟩
  rw [← hrt] at HT hr
  rw [hr]
  have HW2 := Lib.hid hw2
  have HN := Lib.hid hn
  have hfv : fileV (DM.getF d.fl (nm k)) = .agg #[.string (DM.getF d.fl (nm k)).1, .int .i64 ((DM.getF d.fl (nm k)).2 : Int)] := rfl
  have hgs := getF_size d.fl (nm k)
  have hsl := DM.sz_le d.fl (nm k)
  have hsz : (DM.getF d.fl (nm k)).1.size ≤ 1099511627776 := by have := h.fit.small; omega
  obtain ⟨fd, hfd⟩ : ∃ fd, fd = (DM.getF d.fl (nm k)).1 := ⟨_, rfl⟩
  obtain ⟨fl, hfl⟩ : ∃ fl : Nat, fl = (DM.getF d.fl (nm k)).2 := ⟨_, rfl⟩
  rw [← hfd, ← hfl] at hfv
  rw [← hfd] at HT hsz ⊢
  have hfs : (fd.size : Int) ≤ 1099511627776 := by omega
  have HFV := Lib.hid hfv
  clear hfv hfd hfl hgs hsl hsz hr
  by_cases he0 : e = 0
  · subst he0
    have h0e : (0 : Int) = 0 := rfl
    by_cases hc0 : c < 0
    · rw [if_pos ⟨rfl, .inl hc0⟩]
      clear hthen hmay hw2 hs1 hB0 hB1 hB2 hB3 hrt he hn h0e
      go_enter Tryz.func45, Tryz.ntmps45
      go_wp2_with fail
      rw [← hw1]
      clear hw1
      refine HM.out.mono ?_
      rintro e w3 ⟨rfl, T3⟩
      have T13 : Touch [] w1 w3 := T2.trans (HW2.out ▸ T3) (by simp)
      have y2 := T13.cell x2 (by simp)
      go_wp2_with fail
      go_quiet (fail)
      all_goals
        go_wp2_with fail
        go_ret
        exact ⟨rfl, mo, h.touch (T1.trans (T13.drewN_ _) (by simp)) (by simp) (by simp) |>.mono (m := n + 2) (by omega), DTouch.quiet (T1.trans (T13.drewN_ _) (by simp))⟩
    · by_cases hc1 : (fd.size : Int) < c
      · rw [if_pos ⟨rfl, .inr hc1⟩]
        clear hthen hmay hw2 hs1 hB0 hB1 hB2 hB3 hrt he hn h0e
        go_enter Tryz.func45, Tryz.ntmps45
        go_wp2_with fail
        rw [← hw1]
        clear hw1
        refine HM.out.mono ?_
        rintro e w3 ⟨rfl, T3⟩
        have T13 : Touch [] w1 w3 := T2.trans (HW2.out ▸ T3) (by simp)
        have y0 := T13.cell x0 (by simp)
        have y1 := T13.cell x1 (by simp)
        have y2 := T13.cell x2 (by simp)
        have h3 := h1.touch T13 (by simp) (by simp)
        have y3 := h3.c1
        have hl3 : ∀ jj, _ := fun jj => MapF.look1 (w := w3.drewN jj) h3.map k hk
        simp only [HFV.out] at hl3
        have hfld := field0
        go_wp2_with fail
        go_quiet (fail)
        all_goals
          go_wp2_with fail
          go_ret
          exact ⟨rfl, mo, h.touch (T1.trans (T13.drewN_ _) (by simp)) (by simp) (by simp) |>.mono (m := n + 2) (by omega), DTouch.quiet (T1.trans (T13.drewN_ _) (by simp))⟩
      · rw [if_neg (fun h => h.2.elim hc0 hc1)]
        have ht := HT.out (fun _ => ⟨by omega, by omega⟩)
        have HT2 := Lib.hid ht
        clear HT
        clear hthen hmay hw2 hs1 hB0 hB1 hB2 hB3 hrt he hn h0e ht
        go_enter Tryz.func45, Tryz.ntmps45
        go_wp2_with fail
        rw [← hw1]
        clear hw1
        refine HM.out.mono ?_
        rintro e w3 ⟨rfl, T3⟩
        have T13 : Touch [] w1 w3 := T2.trans (HW2.out ▸ T3) (by simp)
        have y0 := T13.cell x0 (by simp)
        have y1 := T13.cell x1 (by simp)
        have y2 := T13.cell x2 (by simp)
        have h3 := h1.touch T13 (by simp) (by simp)
        have y3 := h3.c1
        have hl3 : ∀ jj, _ := fun jj => MapF.look1 (w := w3.drewN jj) h3.map k hk
        simp only [HFV.out] at hl3
        have hfld := field0
        go_wp2_with fail
        go_quiet (fail)
        all_goals
          go_wp2_with fail
          refine (HT2.out _ (T13.drewN_ _)).mono ?_
          rintro r w4 ⟨rfl, mo', hd4, T4⟩
          go_wp2_with fail
          go_ret
          exact Ends.pre ⟨rfl, mo', hd4, T4⟩ (T1.trans (T13.drewN_ _) (by simp))
  · rw [if_neg (fun h => he0 h.1)]
    have ht := HT.out (fun h => absurd h he0)
    have HT2 := Lib.hid ht
    clear HT
    have he0' : (e == 0) = false := by simpa using he0
    clear hthen hmay hw2 hs1 hB0 hB1 hB2 hB3 hrt he hn he0 ht
    go_enter Tryz.func45, Tryz.ntmps45
    go_wp2_with fail
    rw [← hw1]
    clear hw1
    refine HM.out.mono ?_
    rintro e w3 ⟨rfl, T3⟩
    have T13 : Touch [] w1 w3 := T2.trans (HW2.out ▸ T3) (by simp)
    have y0 := T13.cell x0 (by simp)
    go_wp2_with fail
    go_region
    all_goals
      go_wp2_with fail
      refine (HT2.out _ T13.drew_).mono ?_
      rintro r w4 ⟨rfl, mo', hd4, T4⟩
      go_wp2_with fail
      go_ret
      exact Ends.pre ⟨rfl, mo', hd4, T4⟩ (T1.trans T13.drew_ (by simp))
end Go.Proofs.YtmglkhnojimnlaaGreat

/- Package disk: Append. -/
import Derived.Test.YtmglkhnojimnlaaGreatDiskRead
import Derived.IntWalk
namespace Go.Proofs.YtmglkhnojimnlaaGreat
open Go.RowKit Go.Maps Go.WideMaps
open DM (N F FL Sorted)

set_option maxRecDepth 10000 in
set_option maxHeartbeats 800000 in
theorem append_any (w : World) (b n : Nat) (mo : Option Nat) (d : DM.D) (h : DiskAt w b mo n d) (hn : n < 1099511627775) (k s : ByteArray) (hk : k.size ≤ maxLen) (hu : DM.used d.fl + s.size ≤ 1099511627776) :
    Calls Tryz.prog 52 #[.pointer (some ⟨b, 0, none⟩), .string k, .string s] w (Ends b n mo w (DM.append d (nm k) s)) := by
  obtain ⟨w1, hw1⟩ : ∃ w1, w1 = ((w.alloc (.cells #[.pointer (some ⟨b, 0, none⟩)] 25)).alloc (.cells #[.string k] 9)).alloc (.cells #[.string s] 9) := ⟨_, rfl⟩
  have T1 : Touch [] w w1 := by rw [hw1]; exact (((Touch.refl [] w).alloc _).alloc _).alloc _
  have hB0 : Blk w1 w.heap.size 25 #[.pointer (some ⟨b, 0, none⟩)] := by rw [hw1]; exact ((Blk.new w _ _).alloc _).alloc _
  have hB1 : Blk w1 (w.heap.size + 1) 9 #[.string k] := by rw [hw1]; exact (Blk.new' _ _ _ (by simp)).alloc _
  have hB2 : Blk w1 (w.heap.size + 1 + 1) 9 #[.string s] := by rw [hw1]; exact Blk.new' _ _ _ (by simp)
  have hs1 : w1.heap.size = w.heap.size + 1 + 1 + 1 := by rw [hw1]; simp
  have h1 := h.touch T1 (by simp) (by simp)
  have x0 := hB0.cell 0
  have x1 := hB1.cell 0
  have x2 := hB2.cell 0
  obtain ⟨w2, hw2⟩ : ∃ w2, w2 = w1.alloc (.cells #[.string k] 9) := ⟨_, rfl⟩
  have T2 : Touch [] w1 w2 := by rw [hw2]; exact (Touch.refl [] w1).alloc _
  have hB3 : Blk w2 w1.heap.size 9 #[.string k] := by rw [hw2]; exact Blk.new' _ _ _ rfl
  have hmay := may1_any w2 b mo n d (h1.touch T2 (by simp) (by simp)) w1.heap.size k (hB3.cell 0) false hk
  have hb := h.blk.lt
  obtain ⟨e, he⟩ : ∃ e, e = DM.may1 d false (nm k) := ⟨_, rfl⟩
  have hthen : ∀ w3, Touch [] w1 w3 → Calls Tryz.prog 77 #[.pointer (some ⟨b, 0, none⟩), .int .i64 e, .func (.func 83) #[] #[.pointer (some ⟨w.heap.size, 0, none⟩), .pointer (some ⟨w.heap.size + 1, 0, none⟩), .pointer (some ⟨w.heap.size + 1 + 1, 0, none⟩)]] w3 (Ends b n mo w3 (DM.thn d e (fun l => DM.put l (nm k) ((DM.getF l (nm k)).1 ++ s, (DM.getF l (nm k)).2)))) := fun w3 T3 => by
    refine then_any w3 b n mo d (h1.touch T3 (by simp) (by simp)) (by omega) _ _ _ _ (fun _ _ => rfl) (fun he0 w4 d1 hd1 hfl T4 => ?_)
    have hz := may1_zero (he ▸ he0)
    exact appendDo w4 b (n + 1) mo d1 hd1 (by omega) _ _ _ k s (T4.cell (T3.cell x0 (by simp)) (by simp; omega)) (T4.cell (T3.cell x1 (by simp)) (by simp; omega)) (T4.cell (T3.cell x2 (by simp)) (by simp; omega)) hz.2.2.1 (by rw [hfl]; exact hu)
  have HT := Lib.hid hthen
  rw [← he, hw2, hs1] at hmay
  have HM := Lib.hid hmay
  have hr : DM.append d (nm k) s = if e = 0 ∧ d.room - DM.used d.fl < s.size then (15, d) else DM.thn d e (fun l => DM.put l (nm k) ((DM.getF l (nm k)).1 ++ s, (DM.getF l (nm k)).2)) := by unfold DM.append; simp only [← he]
  obtain ⟨rt, hrt⟩ : ∃ rt, rt = DM.thn d e (fun l => DM.put l (nm k) ((DM.getF l (nm k)).1 ++ s, (DM.getF l (nm k)).2)) := ⟨_, rfl⟩
  rw [← hrt] at HT hr
  rw [hr]
  obtain ⟨ro1, ro2⟩ := h.room
  have HW2 := Lib.hid hw2
  have HU := Lib.hid hu
  have HN := Lib.hid hn
  by_cases he0 : e = 0
  · subst he0
    obtain ⟨us, hus⟩ : ∃ us, us = DM.used d.fl := ⟨_, rfl⟩
    have hused : ∀ W, Touch [] w1 W → Calls Tryz.prog 10 #[.pointer (some ⟨b, 0, none⟩)] W fun e w' => e = .returned (.int .i64 us) ∧ Touch [] W w' := fun W hW => by
      rw [hus]; exact used_any W b n mo d (h1.touch hW (by simp) (by simp)) (by have := HN.out; omega)
    have HUS := Lib.hid hused
    rw [← hus]
    have hub : us + s.size ≤ 1099511627776 := by rw [hus]; exact HU.out
    have hub1 : (us : Int) ≤ 1099511627776 := by omega
    have hub2 : (s.size : Int) ≤ 1099511627776 := by omega
    have hwr : IntKind.i64.wrap (d.room - (us : Int)) = d.room - (us : Int) := IntWalk.i64_in _ (by omega)
    have HWR := Lib.hid hwr
    clear hwr
    by_cases hc : d.room - (us : Int) < (s.size : Int)
    · have hx : (0 : Int) = 0 ∧ d.room - (us : Int) < (s.size : Int) := ⟨rfl, hc⟩
      rw [if_pos hx]
      clear hx hthen hmay hw2 hs1 hB0 hB1 hB2 hB3 hr hrt hused he hus hu hn hub
      go_enter Tryz.func52, Tryz.ntmps52
      go_wp2_with fail
      rw [← hw1]
      clear hw1
      refine HM.out.mono ?_
      rintro e w3 ⟨rfl, T3⟩
      have T13 : Touch [] w1 w3 := T2.trans (HW2.out ▸ T3) (by simp)
      have y0 := T13.cell x0 (by simp)
      have y1 := T13.cell x1 (by simp)
      have y2 := T13.cell x2 (by simp)
      have h3 := h1.touch T13 (by simp) (by simp)
      have y3 := h3.c0
      go_wp2_with fail
      go_region_held3 (fun w' => w'.cell? ⟨w.heap.size, 0, none⟩ = some (.pointer (some ⟨b, 0, none⟩)) ∧ w'.cell? ⟨w.heap.size + 1 + 1, 0, none⟩ = some (.string s) ∧ w'.cell? ⟨b, 0, none⟩ = some (.int .i64 d.room)) (first | exact ⟨y0, y2, y3⟩ | exact ⟨z0, z2, z3⟩)
        (first
          | (go_at_call 10; refine (HUS.out w3.drew T13.drew_).mono ?_; rintro e w4 ⟨rfl, T4⟩; have T14 := T13.drew_.trans T4 (by simp); have z0 := T14.cell x0 (by simp); have z1 := T14.cell x1 (by simp); have z2 := T14.cell x2 (by simp); have z3 := T4.cell y3 (by simp)))
      all_goals
        simp only [HWR.out]
        go_wp2_with fail
        go_ret
        exact ⟨rfl, mo, h.touch (T1.trans T14 (by simp)) (by simp) (by simp) |>.mono (m := n + 2) (by omega), DTouch.quiet (T1.trans T14 (by simp))⟩
    · have hx : ¬ ((0 : Int) = 0 ∧ d.room - (us : Int) < (s.size : Int)) := fun h => hc h.2
      rw [if_neg hx]
      clear hx hthen hmay hw2 hs1 hB0 hB1 hB2 hB3 hr hrt hused he hus hu hn hub
      go_enter Tryz.func52, Tryz.ntmps52
      go_wp2_with fail
      rw [← hw1]
      clear hw1
      refine HM.out.mono ?_
      rintro e w3 ⟨rfl, T3⟩
      have T13 : Touch [] w1 w3 := T2.trans (HW2.out ▸ T3) (by simp)
      have y0 := T13.cell x0 (by simp)
      have y1 := T13.cell x1 (by simp)
      have y2 := T13.cell x2 (by simp)
      have h3 := h1.touch T13 (by simp) (by simp)
      have y3 := h3.c0
      go_wp2_with fail
      go_region_held3 (fun w' => w'.cell? ⟨w.heap.size, 0, none⟩ = some (.pointer (some ⟨b, 0, none⟩)) ∧ w'.cell? ⟨w.heap.size + 1 + 1, 0, none⟩ = some (.string s) ∧ w'.cell? ⟨b, 0, none⟩ = some (.int .i64 d.room)) (first | exact ⟨y0, y2, y3⟩ | exact ⟨z0, z2, z3⟩)
        (first
          | (go_at_call 10; refine (HUS.out w3.drew T13.drew_).mono ?_; rintro e w4 ⟨rfl, T4⟩; have T14 := T13.drew_.trans T4 (by simp); have z0 := T14.cell x0 (by simp); have z1 := T14.cell x1 (by simp); have z2 := T14.cell x2 (by simp); have z3 := T4.cell y3 (by simp)))
      all_goals
        simp only [HWR.out]
        go_wp2_with fail
        refine (HT.out _ T14).mono ?_
        rintro r w5 ⟨rfl, mo', hd5, T5⟩
        go_wp2_with fail
        go_ret
        exact Ends.pre ⟨rfl, mo', hd5, T5⟩ (T1.trans T14 (by simp))
  · have hen : ¬ (e = 0 ∧ d.room - (DM.used d.fl : Int) < (s.size : Int)) := fun h => he0 h.1
    rw [if_neg hen]
    have he0' : (e == 0) = false := by simpa using he0
    clear hthen hmay hw2 hs1 hB0 hB1 hB2 hB3 hr hrt he hu hn hen he0
    go_enter Tryz.func52, Tryz.ntmps52
    go_wp2_with fail
    rw [← hw1]
    clear hw1
    refine HM.out.mono ?_
    rintro e w3 ⟨rfl, T3⟩
    have T13 : Touch [] w1 w3 := T2.trans (HW2.out ▸ T3) (by simp)
    have y0 := T13.cell x0 (by simp)
    go_wp2_with fail
    go_region
    all_goals
      go_wp2_with fail
      refine (HT.out _ T13.drew_).mono ?_
      rintro r w4 ⟨rfl, mo', hd4, T4⟩
      go_wp2_with fail
      go_ret
      exact Ends.pre ⟨rfl, mo', hd4, T4⟩ (T1.trans T13.drew_ (by simp))
end Go.Proofs.YtmglkhnojimnlaaGreat

/- law10: awake: the chapter's examples. -/
import Derived.Test.YtmglkhnojimnlaaWalLaw2
namespace Go.Proofs.Ytmglkhnojimnlaa
open Go.RowKit Go.Maps

abbrev tA : ByteArray := ⟨#[97]⟩
abbrev tB : ByteArray := ⟨#[98]⟩
abbrev tC : ByteArray := ⟨#[99]⟩
abbrev tZ : ByteArray := ⟨#[122]⟩
def aw0 : DM.D := DM.new 1000
def awx0 : LM.L := LM.start aw0 []
def awx1 : LM.L := (LM.append awx0 ([tA, tB].map bs)).2
def awx2 : LM.L := (LM.sync awx1).2
def awx3 : LM.L := (LM.append awx2 ([tC].map bs)).2
def awd4 : DM.D := DM.crash awx3.d []
def awx5 : LM.L := LM.start (LM.opened awd4).1.2 ([tA, tB].map bs)
def awx6 : LM.L := (LM.rewrite awx5 ([tZ].map bs)).2
theorem awRec : recS tA = ⟨#[0, 0, 0, 1, 229, 140, 151, 146, 97]⟩ := by kernel_rfl
theorem awOpen0 : LM.opened (DM.new 1000) = ((0, aw0), []) := by kernel_rfl
theorem awOpen4 : LM.opened awd4 = ((0, (LM.opened awd4).1.2), [tA, tB].map bs) := by kernel_rfl
theorem awRew : LM.rewrite awx5 ([tZ].map bs) = (0, awx6) := by kernel_rfl
theorem awOpen6 : LM.opened awx6.d = ((0, (LM.opened awx6.d).1.2), [tZ].map bs) := by kernel_rfl
theorem awFits1 : WM.Fits ([tA, tB].map bs) := by intro s hs; simp [bs] at hs; rcases hs with rfl | rfl <;> simp
theorem awFits2 : WM.Fits ([tC].map bs) := by intro s hs; simp [bs] at hs; subst hs; simp
theorem awFits3 : WM.Fits ([tZ].map bs) := by intro s hs; simp [bs] at hs; subst hs; simp
theorem awLe1 : (WM.all (awx0.l ++ [tA, tB].map bs)).length ≤ 1099511627776 ∧ DM.used awx0.d.fl + (WM.all ([tA, tB].map bs)).length ≤ 1099511627776 := of_decide_eq_true (by kernel_rfl)
theorem awLe2 : (WM.all (awx2.l ++ [tC].map bs)).length ≤ 1099511627776 ∧ DM.used awx2.d.fl + (WM.all ([tC].map bs)).length ≤ 1099511627776 := of_decide_eq_true (by kernel_rfl)
theorem awLe3 : (WM.all ([tZ].map bs)).length ≤ 1099511627776 ∧ DM.used awx5.d.fl + (WM.all ([tZ].map bs)).length ≤ 1099511627776 := of_decide_eq_true (by kernel_rfl)
theorem texts_new (w : World) (ss : List ByteArray) : TextsB (w.alloc (.cells (ss.map Value.string).toArray 9)) (some ⟨w.heap.size, 0, none⟩) ss :=
  .inr ⟨_, 0, _, rfl, Blk.new _ _ _, fun i hi => by simp [hi]⟩
set_option maxRecDepth 10000 in
set_option maxHeartbeats 1600000 in
theorem awake_any (w : World) : Calls Try.prog 9 #[] w fun e w' => e = .returned (.bool true) ∧ Touch [] w w' := by
  have hrec := record_any w tA (by decide)
  rw [if_pos (by decide), if_pos (by decide), awRec] at hrec
  have HREC := Lib.hid hrec
  clear hrec
  go_enter Try.func9, Try.ntmps9
  go_wp2_with fail
  refine HREC.out.mono ?_
  rintro e w1 ⟨rfl, T1⟩
  go_wp2_with fail
  refine (onew w w1 T1 1000 (by decide)).mono ?_
  rintro e w2 ⟨rfl, o2, T2⟩
  obtain ⟨B, hB⟩ : ∃ B, B = w1.heap.size := ⟨_, rfl⟩
  rw [← hB] at o2 ⊢
  clear hB T1 T2
  go_wp2_with fail
  refine (oopen_good o2 (by omega) awOpen0 rfl).mono ?_
  rintro e w3 ⟨g, a3, c3, rfl, o3, _, hl3, _, _⟩
  have o3' : OwnW w w3 g B (0 + 6) awx0 := o3
  have O3 := Lib.hid o3'
  have hz3 : (([] : List WM.Bs).length : Int) = 0 := rfl
  rw [show ([] : List WM.Bs).length = 0 from rfl]
  clear o3 o3' hl3 o2 hz3
  go_wp2_with fail
  have ht := texts_new w3 [tA, tB]
  refine (oappend (O3.out.touch ((Touch.refl [] w3).alloc _)) (by omega) _ 2 [tA, tB] ht awFits1 awLe1.1 awLe1.2).mono ?_
  rintro e w4 ⟨rfl, o4, _⟩
  have O4 := Lib.hid o4
  generalize (LM.append awx0 (List.map bs [tA, tB])).1 = q4
  clear o4 ht
  go_wp2_with fail
  refine (osync (show OwnW w w4 g B _ awx1 from O4.out) (by omega)).mono ?_
  rintro e w5 ⟨rfl, o5, _⟩
  have O5 := Lib.hid o5
  generalize (LM.sync awx1).1 = q5
  clear o5
  go_wp2_with fail
  have ht := texts_new w5 [tC]
  refine (oappend ((show OwnW w w5 g B _ awx2 from O5.out).touch ((Touch.refl [] w5).alloc _)) (by omega) _ 1 [tC] ht awFits2 awLe2.1 awLe2.2).mono ?_
  rintro e w6 ⟨rfl, o6, _⟩
  have O6 := Lib.hid (show OwnW w w6 g B _ awx3 from o6)
  generalize (LM.append awx2 (List.map bs [tC])).1 = q6
  clear o6 ht
  go_wp2_with fail
  refine (ocrash O6.out.own (by omega) none 0 0 [] (Picks.nil_ w)).mono ?_
  rintro e w7 ⟨rfl, o7, _⟩
  have O7 := Lib.hid (show Own w w7 B _ awd4 from o7)
  clear o7
  go_wp2_with fail
  refine (oopen_good O7.out (by omega) awOpen4 rfl).mono ?_
  rintro e w8 ⟨g8, a8, c8, rfl, o8, t8, hl8, hm8, _⟩
  have O8 := Lib.hid (show OwnW w w8 g8 B _ awx5 from o8)
  have HT8 := Lib.hid t8
  have HL8 := Lib.hid hl8
  rw [show (List.map bs [tA, tB]).length = 2 from rfl]
  clear o8 t8 hl8 hm8
  go_wp2_with fail
  have ht := texts_new w8 [tZ]
  have T89 : Touch [] w8 (w8.alloc (.cells #[.string tZ] 9)) := (Touch.refl [] w8).alloc _
  have HT9 := Lib.hid (HT8.out.touch T89)
  have hrw := orewrite (O8.out.touch T89) (by omega) _ 1 [tZ] ht awFits3 awLe3.1 awLe3.2
  rw [awRew] at hrw
  refine hrw.mono ?_
  rintro e w10 ⟨rfl, o10, k10⟩
  have O10 := Lib.hid o10
  have HT10 := Lib.hid (HT9.out.keep k10 (by decide))
  clear o10 k10 ht hrw T89
  go_wp2_with fail
  refine (oopen_good O10.out.own (by omega) awOpen6 rfl).mono ?_
  rintro e w11 ⟨g11, a11, c11, rfl, o11, t11, hl11, hm11, k11⟩
  have T11 := Lib.hid o11.T
  have h8 := (HT10.out.keep k11 (by decide)).texts
  have h11 := t11.texts
  rw [show (List.map bs [tZ]).length = 1 from rfl]
  obtain ⟨b8, f8, rfl, d8⟩ := h8 1 (by decide)
  obtain ⟨b11, f11, rfl, d11⟩ := h11 0 (by decide)
  have d8' : w11.cell? ⟨b8, f8 + 1, none⟩ = some (.string tB) := d8
  have d11' : w11.cell? ⟨b11, f11, none⟩ = some (.string tZ) := d11
  clear h8 h11 d8 d11 t11 hl11 hm11 k11 o11
  go_wp2_with fail
  go_ret
  exact ⟨rfl, T11.out⟩
end Go.Proofs.Ytmglkhnojimnlaa

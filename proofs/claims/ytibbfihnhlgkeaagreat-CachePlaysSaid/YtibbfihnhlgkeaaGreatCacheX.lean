/- byUse, MinFunc over the heap by use. -/
import Derived.Test.YtibbfihnhlgkeaaGreatCacheV
namespace Go.Proofs.YtibbfihnhlgkeaaGreat
open Go.RowKit Go.Maps Go.WideMaps
open NM (Bs bs ofBs)
open CM (It C)

def cmpI (a b : Int) : Int := if a < b then -1 else if b < a then 1 else 0
theorem nan_any (w : World) (a : Int) : Calls Tryz.prog 77 #[.int .i64 a] w fun e w' => e = .returned (.bool false) ∧ w' = w := by
  have h : (a != a) = false := by simp
  go_enter Tryz.func77, Tryz.ntmps77
  go_wp2_with fail
  go_ret
  exact ⟨rfl, rfl⟩
theorem cmp_any (w : World) (a b : Int) : Calls Tryz.prog 58 #[.int .i64 a, .int .i64 b] w fun e w' => e = .returned (.int .i64 (cmpI a b)) ∧ w' = w := by
  by_cases h1 : a < b
  · have HR := Lib.hid (show cmpI a b = -1 by unfold cmpI; rw [if_pos h1])
    go_enter Tryz.func58, Tryz.ntmps58
    go_wp2_with fail
    refine (nan_any _ _).mono ?_
    rintro e w1 ⟨rfl, rfl⟩
    go_wp2_with fail
    refine (nan_any _ _).mono ?_
    rintro e w1 ⟨rfl, rfl⟩
    go_wp2_with fail
    go_ret
    exact ⟨by rw [HR.out]; rfl, rfl⟩
  · by_cases h2 : b < a
    · have HR := Lib.hid (show cmpI a b = 1 by unfold cmpI; rw [if_neg h1, if_pos h2])
      have h3 : b ≤ a := by omega
      clear h1
      go_enter Tryz.func58, Tryz.ntmps58
      go_wp2_with fail
      refine (nan_any _ _).mono ?_
      rintro e w1 ⟨rfl, rfl⟩
      go_wp2_with fail
      refine (nan_any _ _).mono ?_
      rintro e w1 ⟨rfl, rfl⟩
      go_wp2_with fail
      go_ret
      exact ⟨by rw [HR.out]; rfl, rfl⟩
    · have h3 : a = b := by omega
      subst h3
      have HR := Lib.hid (show cmpI a a = 0 by unfold cmpI; simp)
      clear h1 h2
      go_enter Tryz.func58, Tryz.ntmps58
      go_wp2_with fail
      refine (nan_any _ _).mono ?_
      rintro e w1 ⟨rfl, rfl⟩
      go_wp2_with fail
      refine (nan_any _ _).mono ?_
      rintro e w1 ⟨rfl, rfl⟩
      go_wp2_with fail
      go_ret
      exact ⟨by rw [HR.out]; rfl, rfl⟩
set_option maxRecDepth 10000 in
theorem byuse_any (w : World) (g k : Nat) (a b : Int) (h1 : w.cell? ⟨g, 10, none⟩ = some (.int .i64 a)) (h2 : w.cell? ⟨k, 10, none⟩ = some (.int .i64 b)) :
    Calls Tryz.prog 38 #[.pointer (some ⟨g, 0, none⟩), .pointer (some ⟨k, 0, none⟩)] w fun e w' => e = .returned (.int .i64 (cmpI a b)) ∧ Touch [] w w' := by
  go_enter Tryz.func38, Tryz.ntmps38
  go_wp2_with fail
  go_still_tail 8, (by kernel_rfl)
  change wpList _ _ _ _ _ w.drew
  go_wp2_with fail
  refine (cmp_any _ _ _).mono ?_
  rintro e w1 ⟨rfl, rfl⟩
  go_wp2_with fail
  go_ret
  exact ⟨rfl, (Touch.refl [] w).drew_⟩
set_option maxRecDepth 10000 in
set_option maxHeartbeats 800000 in
theorem minfunc_any (w : World) (G cap : Nat) (l : List It) (h : Row w G cap l) (hl : 0 < l.length) (hmax : l.length ≤ 1099511627776) :
    Calls Tryz.prog 43 #[.slice (some ⟨G, 0, none⟩) l.length cap, .func (.func 38) #[] #[]] w fun e w' => e = .returned (ptr l[CM.old l]!) ∧ Touch [] w w' := by
  have HH := Lib.hid h
  obtain ⟨R, hR⟩ : ∃ R, R = l[CM.old l]! := ⟨_, rfl⟩
  rw [← hR]
  have HR := Lib.hid hR
  obtain ⟨n, hn⟩ : ∃ n, n = l.length := ⟨_, rfl⟩
  have c0 := h.cell 0 hl
  rw [← hn] at hl hmax ⊢
  have HN := Lib.hid (And.intro hn (And.intro hl hmax))
  obtain ⟨g0, hg0⟩ : ∃ g, g = (l[0]'(by omega)).g := ⟨_, rfl⟩
  have hp0 : ptr (l[0]'(by omega)) = .pointer (some ⟨g0, 0, none⟩) := by unfold ptr; rw [hg0]
  rw [hp0] at c0
  have HP0 := Lib.hid (show g0 = (l[CM.oldF l (1 - 1)]!).g by rw [hg0, show CM.oldF l (1 - 1) = 0 from rfl, getElem!_pos l 0 (by omega)])
  have h1n : 1 ≤ (n : Int) := by omega
  have hln : (0 : Int) < (n : Int) := by omega
  clear hR hn h hp0 hg0 hl hmax
  go_enter Tryz.func43, Tryz.ntmps43
  go_wp2_with fail
  go_loopw [5, 6] (fun s5 s6 wr => ∃ k g5 : Nat, s5 = .pointer (some ⟨g5, 0, none⟩) ∧ g5 = (l[CM.oldF l (k - 1)]!).g ∧ s6 = .int .i64 (k : Int) ∧ 1 ≤ k ∧ k ≤ n ∧ Touch [] w wr) (fun _ s6 _ => n - (intOf s6).toNat)
  case atStart => exact ⟨1, g0, rfl, HP0.out, rfl, Nat.le_refl _, HN.out.2.1, Touch.refl _ _⟩
  case round =>
    obtain ⟨k, g5, rfl, hg5, rfl, hk1, hkn, hT⟩ := hrel
    obtain ⟨wo, rfl⟩ : ∃ wo, wo = wr := ⟨_, rfl⟩
    have HT := Lib.hid hT
    have hq : CM.oldF l (k - 1) < l.length := by have := (CM.oldF_spec l (k - 1) (by have := HN.out.1; omega)).1; have := HN.out.1; omega
    have hrow := HH.out.touch hT (by simp) (by simp)
    have hu5 : wo.cell? ⟨g5, 10, none⟩ = some (.int .i64 (l[CM.oldF l (k - 1)]!).used) := by
      rw [hg5, getElem!_pos l _ hq]; exact (hrow.items _ hq).cell 10
    have HS5 := Lib.hid hg5
    clear hT
    by_cases hlt : k < n
    · have hkl : k < l.length := by have := HN.out.1; omega
      have ck := hrow.cell k hkl
      obtain ⟨gk, hgk⟩ : ∃ g, g = (l[k]'hkl).g := ⟨_, rfl⟩
      have hpk : ptr (l[k]'hkl) = .pointer (some ⟨gk, 0, none⟩) := by unfold ptr; rw [hgk]
      rw [hpk] at ck
      have huk : wo.cell? ⟨gk, 10, none⟩ = some (.int .i64 (l[k]'hkl).used) := by rw [hgk]; exact (hrow.items k hkl).cell 10
      obtain ⟨a, ha⟩ : ∃ a, a = (l[k]'hkl).used := ⟨_, rfl⟩
      obtain ⟨b, hb⟩ : ∃ b, b = (l[CM.oldF l (k - 1)]!).used := ⟨_, rfl⟩
      rw [← ha] at huk
      rw [← hb] at hu5
      have HB := Lib.hid (byuse_any wo gk g5 a b huk hu5)
      have hstep : CM.oldF l k = if a < b then k else CM.oldF l (k - 1) := by
        obtain ⟨k', rfl⟩ : ∃ k', k = k' + 1 := ⟨k - 1, by omega⟩
        show (if l[k' + 1]!.used < l[CM.oldF l k']!.used then k' + 1 else CM.oldF l k') = _
        rw [ha, hb, getElem!_pos l (k' + 1) hkl]
        rfl
      have HST := Lib.hid hstep
      have HPK := Lib.hid (show gk = (l[k]!).g by rw [hgk, getElem!_pos l k hkl])
      have hrow2 := fun W (t : Touch [] wo W) => (hrow.touch t (by simp) (by simp)).cell k hkl
      rw [hpk] at hrow2
      have HROW := Lib.hid hrow2
      have hltI : (k : Int) < (n : Int) := by omega
      have hw : k < 1099511627776 := by have := HN.out.2.2; omega
      have hwr : wrap64 ((k : Int) + 1) = (k : Int) + 1 := IntWalk.wrap64_in _ (by omega)
      have HW := Lib.hid hwr
      have HKN := Lib.hid (And.intro hk1 (And.intro hkn hlt))
      clear hq hg5 hrow huk hu5 hgk hpk ha hb hstep hrow2 hw hwr hk1 hkn hlt
      by_cases hab : a < b
      · have HC := Lib.hid (show cmpI a b = -1 by unfold cmpI; rw [if_pos hab])
        have HQ := Lib.hid (show CM.oldF l k = k by rw [HST.out, if_pos hab])
        clear hab
        go_wp2_with fail
        refine HB.out.mono ?_
        rintro e w1 ⟨rfl, T1⟩
        rw [HC.out]
        have HT1 := Lib.hid T1
        have ck1 := HROW.out w1 T1
        have hwr := HW.out
        clear T1 ck
        go_wp2_with fail
        go_roundw
        case rel => exact ⟨k + 1, gk, rfl, by rw [Nat.add_sub_cancel, HQ.out]; exact HPK.out, by rw [hwr]; rfl, by omega, HKN.out.2.2, HT.out.trans HT1.out (by simp)⟩
        case measure => exact lt_sub_of (x := k + 1) (i := k) (by rw [hwr]; rfl) rfl (Nat.sub_lt_sub_left HKN.out.2.2 (Nat.lt_succ_self k))
      · have hge : (0 : Int) ≤ cmpI a b := by unfold cmpI; rw [if_neg hab]; split <;> omega
        have HQ := Lib.hid (show CM.oldF l k = CM.oldF l (k - 1) by rw [HST.out, if_neg hab])
        obtain ⟨c, hc⟩ : ∃ c, c = cmpI a b := ⟨_, rfl⟩
        rw [← hc] at hge HB
        have hge2 : decide (c < 0) = false := by simp; omega
        clear hab hc
        go_wp2_with fail
        refine HB.out.mono ?_
        rintro e w1 ⟨rfl, T1⟩
        have HT1 := Lib.hid T1
        have hwr := HW.out
        clear T1 ck
        go_wp2_with fail
        go_roundw
        case rel => exact ⟨k + 1, g5, rfl, by rw [Nat.add_sub_cancel, HQ.out]; exact HS5.out, by rw [hwr]; rfl, by omega, HKN.out.2.2, HT.out.trans HT1.out (by simp)⟩
        case measure => exact lt_sub_of (x := k + 1) (i := k) (by rw [hwr]; rfl) rfl (Nat.sub_lt_sub_left HKN.out.2.2 (Nat.lt_succ_self k))
    · have hkn2 : k = n := by omega
      have hge : (n : Int) ≤ (k : Int) := by omega
      have HQ := Lib.hid (show (.pointer (some ⟨g5, 0, none⟩) : Value) = ptr R by
        rw [HS5.out, HR.out]
        unfold CM.old
        rw [← HN.out.1, hkn2]
        rfl)
      clear hq hg5 hrow hu5 hk1 hkn hlt hkn2
      go_wp2_with fail
      go_ret
      exact ⟨by rw [← HQ.out]; rfl, HT.out⟩
end Go.Proofs.YtibbfihnhlgkeaaGreat

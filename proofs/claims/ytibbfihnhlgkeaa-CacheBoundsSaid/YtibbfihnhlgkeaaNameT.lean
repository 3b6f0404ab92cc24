/- Names that are the same, or lie in a zone. -/
import Derived.Test.YtibbfihnhlgkeaaNameS
namespace Go.Proofs.Ytibbfihnhlgkeaa
open Go.RowKit Go.Maps Go.Shelf
open NM (Bs bs ofBs)

set_option maxRecDepth 10000 in
theorem rsame_any (w : World) (a b : ByteArray) (ha : a.size ≤ 1099511627776) (hb : b.size ≤ 1099511627776) : Calls Try.prog 38 #[.string a, .string b] w fun e w' => e = .returned (.bool (NM.sameR (bs a) (bs b))) ∧ Touch [] w w' := by
  have hR : NM.sameR (bs a) (bs b) = decide (0 ≤ NM.shared (bs a) (bs b) ∧ NM.shared (bs a) (bs b) = NM.depth (bs a) ∧ NM.shared (bs a) (bs b) = NM.depth (bs b)) := rfl
  have HS := Lib.hid (fun W => rshared_any W a b ha hb)
  have HA := Lib.hid (fun W => rdepth_any W a ha)
  have HB := Lib.hid (fun W => rdepth_any W b hb)
  obtain ⟨s, hs⟩ : ∃ s, s = NM.shared (bs a) (bs b) := ⟨_, rfl⟩
  obtain ⟨x, hx⟩ : ∃ x, x = NM.depth (bs a) := ⟨_, rfl⟩
  obtain ⟨y, hy⟩ : ∃ y, y = NM.depth (bs b) := ⟨_, rfl⟩
  rw [← hs] at HS hR
  rw [← hx] at HA hR
  rw [← hy] at HB hR
  obtain ⟨r, hr⟩ : ∃ r, r = NM.sameR (bs a) (bs b) := ⟨_, rfl⟩
  rw [← hr] at hR ⊢
  have HR := Lib.hid hR
  clear hs hx hy hR hr
  go_enter Try.func38, Try.ntmps38
  go_wp2_with fail
  refine (HS.out _).mono ?_
  rintro e w1 ⟨rfl, T1⟩
  by_cases h0 : 0 ≤ s
  · go_wp2_with fail
    refine (HA.out _).mono ?_
    rintro e w2 ⟨rfl, T2⟩
    by_cases h1 : s = x
    · have h1b : (s == x) = true := by simpa using h1
      have e : (0 ≤ s ∧ s = x ∧ s = y) ↔ s = y := ⟨fun h => h.2.2, fun h => ⟨h0, h1, h⟩⟩
      have hr : r = (s == y) := by rw [HR.out, decide_eq_decide.2 e]; rfl
      have HR2 := Lib.hid hr
      clear hr h1 e
      go_wp2_with fail
      refine (HB.out _).mono ?_
      rintro e w3 ⟨rfl, T3⟩
      go_wp2_with fail
      go_ret
      exact ⟨by rw [HR2.out]; rfl, (T1.trans T2 (by simp)).trans T3 (by simp)⟩
    · have h1b : (s == x) = false := by simpa using h1
      have hr : r = false := by rw [HR.out]; simp [h1]
      have HR2 := Lib.hid hr
      clear hr h1
      go_wp2_with fail
      go_ret
      exact ⟨by rw [HR2.out]; rfl, T1.trans T2 (by simp)⟩
  · have hr : r = false := by rw [HR.out]; simp [h0]
    have HR2 := Lib.hid hr
    clear hr
    go_wp2_with fail
    go_ret
    exact ⟨by rw [HR2.out]; rfl, T1⟩
set_option maxRecDepth 10000 in
theorem runder_any (w : World) (a b : ByteArray) (ha : a.size ≤ 1099511627776) (hb : b.size ≤ 1099511627776) : Calls Try.prog 25 #[.string a, .string b] w fun e w' => e = .returned (.bool (NM.under (bs a) (bs b))) ∧ Touch [] w w' := by
  have hR : NM.under (bs a) (bs b) = decide (0 ≤ NM.shared (bs a) (bs b) ∧ NM.shared (bs a) (bs b) = NM.depth (bs b)) := rfl
  have HS := Lib.hid (fun W => rshared_any W a b ha hb)
  have HB := Lib.hid (fun W => rdepth_any W b hb)
  obtain ⟨s, hs⟩ : ∃ s, s = NM.shared (bs a) (bs b) := ⟨_, rfl⟩
  obtain ⟨y, hy⟩ : ∃ y, y = NM.depth (bs b) := ⟨_, rfl⟩
  rw [← hs] at HS hR
  rw [← hy] at HB hR
  obtain ⟨r, hr⟩ : ∃ r, r = NM.under (bs a) (bs b) := ⟨_, rfl⟩
  rw [← hr] at hR ⊢
  have HR := Lib.hid hR
  clear hs hy hR hr
  go_enter Try.func25, Try.ntmps25
  go_wp2_with fail
  refine (HS.out _).mono ?_
  rintro e w1 ⟨rfl, T1⟩
  by_cases h0 : 0 ≤ s
  · have e : (0 ≤ s ∧ s = y) ↔ s = y := ⟨fun h => h.2, fun h => ⟨h0, h⟩⟩
    have hr : r = (s == y) := by rw [HR.out, decide_eq_decide.2 e]; rfl
    clear e
    have HR2 := Lib.hid hr
    clear hr
    go_wp2_with fail
    refine (HB.out _).mono ?_
    rintro e w2 ⟨rfl, T2⟩
    go_wp2_with fail
    go_ret
    exact ⟨by rw [HR2.out]; rfl, T1.trans T2 (by simp)⟩
  · have hr : r = false := by rw [HR.out]; simp [h0]
    have HR2 := Lib.hid hr
    clear hr
    go_wp2_with fail
    go_ret
    exact ⟨by rw [HR2.out]; rfl, T1⟩
set_option maxRecDepth 10000 in
theorem nsame_any (w : World) (a b : ByteArray) (ha : a.size ≤ 1099511627776) (hb : b.size ≤ 1099511627776) : Calls Try.prog 35 #[.string a, .string b] w fun e w' => e = .returned (.bool (NM.same (bs a) (bs b))) ∧ Touch [] w w' := by
  have hR : NM.same (bs a) (bs b) = decide (NM.check (bs a) = 0 ∧ NM.lower (bs a) = NM.lower (bs b)) := rfl
  have HC := Lib.hid (fun W => ncheck_any W a ha)
  have HA := Lib.hid (fun W => nlower_any W a ha)
  have HB := Lib.hid (fun W => nlower_any W b hb)
  have hpq : (ofBs (NM.lower (bs a)) = ofBs (NM.lower (bs b))) ↔ (NM.lower (bs a) = NM.lower (bs b)) := ⟨fun h => by have := congrArg bs h; rwa [NM.bs_ofBs, NM.bs_ofBs] at this, fun h => by rw [h]⟩
  obtain ⟨c, hc⟩ : ∃ c, c = NM.check (bs a) := ⟨_, rfl⟩
  obtain ⟨x, hx⟩ : ∃ x, x = ofBs (NM.lower (bs a)) := ⟨_, rfl⟩
  obtain ⟨y, hy⟩ : ∃ y, y = ofBs (NM.lower (bs b)) := ⟨_, rfl⟩
  rw [← hc] at HC hR
  rw [← hx] at HA hpq
  rw [← hy] at HB hpq
  obtain ⟨r, hr⟩ : ∃ r, r = NM.same (bs a) (bs b) := ⟨_, rfl⟩
  rw [← hr] at hR ⊢
  have HR := Lib.hid hR
  have HPQ := Lib.hid hpq
  clear hc hx hy hR hpq hr
  go_enter Try.func35, Try.ntmps35
  go_wp2_with fail
  refine (HC.out _).mono ?_
  rintro e w1 ⟨rfl, T1⟩
  by_cases h0 : c = 0
  · subst h0
    go_wp2_with fail
    refine (HA.out _).mono ?_
    rintro e w2 ⟨rfl, T2⟩
    go_wp2_with fail
    refine (HB.out _).mono ?_
    rintro e w3 ⟨rfl, T3⟩
    by_cases h1 : x = y
    · have he := str_eq h1
      have hr : r = true := by rw [HR.out]; simp [HPQ.out.1 h1]
      have HR2 := Lib.hid hr
      clear h1 hr
      go_wp2_with fail
      go_ret
      exact ⟨by rw [HR2.out]; rfl, (T1.trans T2 (by simp)).trans T3 (by simp)⟩
    · have he := str_ne h1
      have hr : r = false := by rw [HR.out]; exact decide_eq_false (fun e => h1 (HPQ.out.2 e.2))
      have HR2 := Lib.hid hr
      clear h1 hr
      go_wp2_with fail
      go_ret
      exact ⟨by rw [HR2.out]; rfl, (T1.trans T2 (by simp)).trans T3 (by simp)⟩
  · have hr : r = false := by rw [HR.out]; simp [h0]
    have HR2 := Lib.hid hr
    clear hr
    go_wp2_with fail
    go_ret
    exact ⟨by rw [HR2.out]; rfl, T1⟩
end Go.Proofs.Ytibbfihnhlgkeaa

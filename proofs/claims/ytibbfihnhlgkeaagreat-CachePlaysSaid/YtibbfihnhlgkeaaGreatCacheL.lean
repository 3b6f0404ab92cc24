/- The document's key; Key, of both. -/
import Derived.Test.YtibbfihnhlgkeaaGreatCacheM3
namespace Go.Proofs.YtibbfihnhlgkeaaGreat
open Go.RowKit Go.Maps Go.Shelf
open NM (Bs bs ofBs)

theorem key_eq (e : CM.E) (ht : 0 ≤ e.type ∧ e.type ≤ 65535) (hc : 0 ≤ e.cls ∧ e.cls ≤ 65535) : ∃ t c : Nat, e.type = (t : Int) ∧ e.cls = (c : Int) ∧ CM.key e = ofBs (if e.kind = 3 then CM.keyB 1 (bs e.name) ((0 : Nat) : Int) (c : Int) else CM.keyB 0 (bs e.name) (t : Int) (c : Int)) :=
  ⟨e.type.toNat, e.cls.toNat, by omega, by omega, by
    rw [Int.toNat_of_nonneg ht.1, Int.toNat_of_nonneg hc.1]; rfl⟩
set_option maxRecDepth 10000 in
theorem ckey_any (w : World) (e : CM.E) (rv : Value) (hn : e.name.size ≤ 1099511627776) (ht : 0 ≤ e.type ∧ e.type ≤ 65535) (hc : 0 ≤ e.cls ∧ e.cls ≤ 65535) : Calls Tryz.prog 41 #[.agg (entV e rv)] w fun e1 w' => e1 = .returned (.string (CM.key e)) ∧ Touch [] w w' := by
  obtain ⟨t, c, htn, hcn, hk⟩ := key_eq e ht hc
  have H1 := Lib.hid (fun W => keyOf_any W 1 (by decide) e.name hn 0 c)
  have H0 := Lib.hid (fun W => keyOf_any W 0 (by decide) e.name hn t c)
  show Calls Tryz.prog 41 #[.agg #[.int .i64 e.kind, .string e.name, .int .u16 e.type, .int .u16 e.cls, rv, .int .i64 e.til, .int .i64 e.rank, .int .i64 e.epoch, .int .i64 e.src]] w fun e1 w' => e1 = .returned (.string (CM.key e)) ∧ Touch [] w w'
  rw [htn, hcn]
  obtain ⟨q, hq⟩ : ∃ q, q = CM.key e := ⟨_, rfl⟩
  rw [← hq] at hk ⊢
  have HK := Lib.hid hk
  have HT := Lib.hid ((Touch.refl [] w).alloc (.cells #[.int .i64 e.kind, .string e.name, .int .u16 (t : Int), .int .u16 (c : Int), rv, .int .i64 e.til, .int .i64 e.rank, .int .i64 e.epoch, .int .i64 e.src] 31))
  clear htn hcn hk hq hn ht hc
  by_cases h3 : e.kind = 3
  · have h4 : (e.kind == 3) = true := by simpa using h3
    have HQ := Lib.hid (show q = ofBs (CM.keyB 1 (bs e.name) ((0 : Nat) : Int) (c : Int)) by rw [HK.out, if_pos h3])
    clear h3 HK
    go_enter Tryz.func41, Tryz.ntmps41
    go_wp2_with fail
    refine (H1.out _).mono ?_
    rintro e1 w1 ⟨rfl, T1⟩
    go_wp2_with fail
    go_ret
    exact ⟨by rw [HQ.out]; rfl, HT.out.trans T1 (by simp)⟩
  · have h4 : (e.kind == 3) = false := by simpa using h3
    have HQ := Lib.hid (show q = ofBs (CM.keyB 0 (bs e.name) (t : Int) (c : Int)) by rw [HK.out, if_neg h3])
    clear h3 HK
    go_enter Tryz.func41, Tryz.ntmps41
    go_wp2_with fail
    refine (H0.out _).mono ?_
    rintro e1 w1 ⟨rfl, T1⟩
    go_wp2_with fail
    go_ret
    exact ⟨by rw [HQ.out]; rfl, HT.out.trans T1 (by simp)⟩
set_option maxRecDepth 10000 in
theorem rKey_any (w : World) (e : CM.E) (rv : Value) (hn : e.name.size ≤ 1099511627776) (ht : 0 ≤ e.type ∧ e.type ≤ 65535) (hc : 0 ≤ e.cls ∧ e.cls ≤ 65535) : Calls Tryz.prog 46 #[.agg (entV e rv)] w fun e1 w' => e1 = .returned (.string (CM.key e)) ∧ Touch [] w w' := by
  obtain ⟨t, c, htn, hcn, hk⟩ := key_eq e ht hc
  have H1 := Lib.hid (fun W => rkey_any W true 1 rfl e.name hn t 0 c rfl)
  have H0 := Lib.hid (fun W => rkey_any W false 0 rfl e.name hn t t c rfl)
  show Calls Tryz.prog 46 #[.agg #[.int .i64 e.kind, .string e.name, .int .u16 e.type, .int .u16 e.cls, rv, .int .i64 e.til, .int .i64 e.rank, .int .i64 e.epoch, .int .i64 e.src]] w fun e1 w' => e1 = .returned (.string (CM.key e)) ∧ Touch [] w w'
  rw [htn, hcn]
  obtain ⟨q, hq⟩ : ∃ q, q = CM.key e := ⟨_, rfl⟩
  rw [← hq] at hk ⊢
  have HK := Lib.hid hk
  have HT := Lib.hid ((Touch.refl [] w).alloc (.cells #[.int .i64 e.kind, .string e.name, .int .u16 (t : Int), .int .u16 (c : Int), rv, .int .i64 e.til, .int .i64 e.rank, .int .i64 e.epoch, .int .i64 e.src] 31))
  clear htn hcn hk hq hn ht hc
  by_cases h3 : e.kind = 3
  · have h4 : (e.kind == 3) = true := by simpa using h3
    have HQ := Lib.hid (show q = ofBs (CM.keyB 1 (bs e.name) ((0 : Nat) : Int) (c : Int)) by rw [HK.out, if_pos h3])
    clear h3 HK
    go_enter Tryz.func46, Tryz.ntmps46
    go_wp2_with fail
    refine (H1.out _).mono ?_
    rintro e1 w1 ⟨rfl, T1⟩
    go_wp2_with fail
    go_ret
    exact ⟨by rw [HQ.out]; rfl, HT.out.trans T1 (by simp)⟩
  · have h4 : (e.kind == 3) = false := by simpa using h3
    have HQ := Lib.hid (show q = ofBs (CM.keyB 0 (bs e.name) (t : Int) (c : Int)) by rw [HK.out, if_neg h3])
    clear h3 HK
    go_enter Tryz.func46, Tryz.ntmps46
    go_wp2_with fail
    refine (H0.out _).mono ?_
    rintro e1 w1 ⟨rfl, T1⟩
    go_wp2_with fail
    go_ret
    exact ⟨by rw [HQ.out]; rfl, HT.out.trans T1 (by simp)⟩
end Go.Proofs.YtibbfihnhlgkeaaGreat

/- Package cache: within, Check's closures, keyOf, Key. -/
import Derived.Test.YtibbfihnhlgkeaaRecE
namespace Go.Proofs.Ytibbfihnhlgkeaa
open Go.RowKit Go.Maps Go.Shelf
open NM (Bs bs ofBs)

theorem within_any (w : World) (n a b : Int) : Calls Try.prog 31 #[.int .i64 n, .int .i64 a, .int .i64 b] w fun e w' => e = .returned (.bool (decide (a ≤ n ∧ n ≤ b))) ∧ w' = w := by
  obtain ⟨r, hr⟩ : ∃ r, r = decide (a ≤ n ∧ n ≤ b) := ⟨_, rfl⟩
  rw [← hr]
  have HR := Lib.hid hr
  clear hr
  go_enter Try.func31, Try.ntmps31
  by_cases h1 : a ≤ n
  · by_cases h2 : n ≤ b
    · have H2 := Lib.hid (show r = true by rw [HR.out, decide_eq_true (And.intro h1 h2)])
      go_wp2_with fail
      go_ret
      exact ⟨by rw [H2.out]; rfl, rfl⟩
    · have H2 := Lib.hid (show r = false by rw [HR.out, decide_eq_false (fun h => h2 h.2)])
      go_wp2_with fail
      go_ret
      exact ⟨by rw [H2.out]; rfl, rfl⟩
  · have H2 := Lib.hid (show r = false by rw [HR.out, decide_eq_false (fun h => h1 h.1)])
    go_wp2_with fail
    go_ret
    exact ⟨by rw [H2.out]; rfl, rfl⟩
/-- an entry's cells, its records in a slice -/
def entV (e : CM.E) (rv : Value) : Array Value := #[.int .i64 e.kind, .string e.name, .int .u16 e.type, .int .u16 e.cls, rv, .int .i64 e.til, .int .i64 e.rank, .int .i64 e.epoch, .int .i64 e.src]
set_option maxRecDepth 10000 in
theorem may1_any (w : World) (r : CM.R) : Calls Try.prog 33 #[.agg (recV r)] w fun e w' => e = .returned (.bool (decide (r.type = 6))) ∧ Touch [] w w' := by
  obtain ⟨n, t, c, ttl, d⟩ := r
  show Calls Try.prog 33 #[.agg #[.string n, .int .u16 t, .int .u16 c, .int .u32 ttl, .string d]] w fun e w' => e = .returned (.bool (decide (t = 6))) ∧ Touch [] w w'
  go_enter Try.func33, Try.ntmps33
  have T0 := (Touch.refl [] w).alloc (.cells #[.string n, .int .u16 t, .int .u16 c, .int .u32 ttl, .string d] 68)
  have HT := Lib.hid T0
  clear T0
  go_wp2_with fail
  go_ret
  exact ⟨by rfl, HT.out⟩
set_option maxRecDepth 10000 in
theorem may2_any (w : World) (r : CM.R) (hr : RFits r) (B : Nat) (e : CM.E) (he : e.name.size ≤ 1099511627776) (rv : Value) (hB : Blk w B 25 (entV e rv)) :
    Calls Try.prog 34 #[.agg (recV r), .pointer (some ⟨B, 0, none⟩)] w fun e1 w' => e1 = .returned (.bool (decide (r.type = e.type) && NM.same (bs r.name) (bs e.name))) ∧ Touch [] w w' := by
  obtain ⟨n, t, c, ttl, d⟩ := r
  obtain ⟨kind, en, et, ec, recs, til, rank, epoch, src⟩ := e
  obtain ⟨hn, hd⟩ := hr
  simp only at hn hd he
  show Calls Try.prog 34 #[.agg #[.string n, .int .u16 t, .int .u16 c, .int .u32 ttl, .string d], .pointer (some ⟨B, 0, none⟩)] w fun e1 w' => e1 = .returned (.bool (decide (t = et) && NM.same (bs n) (bs en))) ∧ Touch [] w w'
  have HS := Lib.hid (fun W => nsame_any W n en hn he)
  obtain ⟨g, hg⟩ : ∃ g, g = NM.same (bs n) (bs en) := ⟨_, rfl⟩
  rw [← hg] at HS ⊢
  have T0 := (Touch.refl [] w).alloc (.cells #[.string n, .int .u16 t, .int .u16 c, .int .u32 ttl, .string d] 68)
  have b1 := hB.alloc (.cells #[.string n, .int .u16 t, .int .u16 c, .int .u32 ttl, .string d] 68)
  have b2 := Blk.new w 68 #[.string n, .int .u16 t, .int .u16 c, .int .u32 ttl, .string d]
  have k1 : (w.alloc (.cells #[.string n, .int .u16 t, .int .u16 c, .int .u32 ttl, .string d] 68)).cell? ⟨B, 1, none⟩ = some (.string en) := b1.cell 1
  have k2 : (w.alloc (.cells #[.string n, .int .u16 t, .int .u16 c, .int .u32 ttl, .string d] 68)).cell? ⟨B, 2, none⟩ = some (.int .u16 et) := b1.cell 2
  have k3 : w.cell? ⟨B, 1, none⟩ = some (.string en) := hB.cell 1
  have k4 : w.cell? ⟨B, 2, none⟩ = some (.int .u16 et) := hB.cell 2
  have HT := Lib.hid T0
  clear T0 b1 b2 hB hg hn hd he
  go_enter Try.func34, Try.ntmps34
  by_cases h : t = et
  · subst h
    go_wp2_with fail
    refine (HS.out _).mono ?_
    rintro e w1 ⟨rfl, T1⟩
    go_wp2_with fail
    go_ret
    exact ⟨by rfl, HT.out.trans T1 (by simp)⟩
  · have h2 : (t == et) = false := by simpa using h
    have h3 : decide (t = et) = false := decide_eq_false h
    rw [h3]
    clear h3 h
    go_wp2_with fail
    go_ret
    exact ⟨by rfl, HT.out⟩
end Go.Proofs.Ytibbfihnhlgkeaa

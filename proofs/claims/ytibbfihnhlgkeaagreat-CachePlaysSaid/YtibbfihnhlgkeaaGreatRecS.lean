/- Package record: shapeOf. -/
import Derived.Test.YtibbfihnhlgkeaaGreatRecR
import Derived.Deep.AppendLies
namespace Go.Proofs.YtibbfihnhlgkeaaGreat
open Go.RowKit Go.Maps Go.Shelf
open NM (Bs bs ofBs)

set_option maxRecDepth 10000 in
theorem shapeOf_any (w : World) (t : Int) : Calls Tryz.prog 93 #[.int .u16 t] w fun e w' => e = .returned (.agg #[.int .i64 (shape t).1, .int .i64 (shape t).2.1, .int .i64 (shape t).2.2.1]) ∧ Touch [] w w' := by
  have hs : shape t = if t = 2 ∨ t = 5 ∨ t = 12 then (0, 1, 0, true) else if t = 15 then (2, 1, 0, true) else if t = 6 then (0, 2, 20, true) else (0, 0, 0, false) := rfl
  obtain ⟨r, hr⟩ : ∃ r, r = shape t := ⟨_, rfl⟩
  rw [← hr] at hs ⊢
  have HS := Lib.hid hs
  clear hs hr
  go_enter Tryz.func93, Tryz.ntmps93
  by_cases h2 : t = 2
  · subst h2
    go_wp2_with fail
    go_returns
    exact ⟨by rw [HS.out]; rfl, (Touch.refl [] w).alloc _⟩
  · by_cases h5 : t = 5
    · subst h5
      go_wp2_with fail
      go_returns
      exact ⟨by rw [HS.out]; rfl, (Touch.refl [] w).alloc _⟩
    · by_cases h12 : t = 12
      · subst h12
        go_wp2_with fail
        go_returns
        exact ⟨by rw [HS.out]; rfl, (Touch.refl [] w).alloc _⟩
      · by_cases h15 : t = 15
        · subst h15
          go_wp2_with fail
          go_returns
          exact ⟨by rw [HS.out]; rfl, (Touch.refl [] w).alloc _⟩
        · by_cases h6 : t = 6
          · subst h6
            go_wp2_with fail
            go_returns
            exact ⟨by rw [HS.out]; rfl, (Touch.refl [] w).alloc _⟩
          · go_wp2_with fail
            go_returns
            exact ⟨by rw [HS.out, if_neg (by omega), if_neg h15, if_neg h6], (Touch.refl [] w).alloc _⟩
end Go.Proofs.YtibbfihnhlgkeaaGreat

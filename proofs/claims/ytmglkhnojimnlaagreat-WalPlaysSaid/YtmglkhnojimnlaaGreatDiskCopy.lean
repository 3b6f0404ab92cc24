/- Package disk: Copy, and of no disk nothing. -/
import Derived.Test.YtmglkhnojimnlaaGreatDiskCrash
import Derived.Test.YtmglkhnojimnlaaGreatShelf
namespace Go.Proofs.YtmglkhnojimnlaaGreat
open Go.RowKit Go.Maps Go.WideMaps
open DM (N F FL Sorted)

theorem crash_nil (w : World) (a0 : Option Addr) (l0 c0 : Nat) : Calls Tryz.prog 21 #[.pointer none, .slice a0 l0 c0] w fun e w' => e = .returned (.tuple #[]) ∧ Touch [] w w' := by
  go_enter Tryz.func21, Tryz.ntmps21
  go_wp2
  refine bodyPost_ret (results_none rfl _ _ _) rfl ?_
  exact ⟨rfl, (Touch.refl [] w).alloc _⟩

end Go.Proofs.YtmglkhnojimnlaaGreat

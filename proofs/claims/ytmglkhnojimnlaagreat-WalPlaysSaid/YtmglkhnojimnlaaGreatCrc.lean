/- Package crc: Of. -/
import Derived.Test.YtmglkhnojimnlaaGreatWalM
import Derived.Test.YtmglkhnojimnlaaGreatBits
import Derived.Test.YtmglkhnojimnlaaGreatChecked
import Derived.WalkKit
import Derived.Laws.ResultCell
import Derived.Deep.WholeRow
import Derived.Deep.MidRow
import Derived.BigQuiet
import Derived.Lib.Strings
namespace Go.Proofs.YtmglkhnojimnlaaGreat
open Go.RowKit Go.Maps

theorem step_any' (c : Nat) (hc : c < 4294967296) (w : World) : Calls Tryz.prog 105 #[.int .u32 (c : Int)] w fun e w' => e = .returned (.int .u32 (WM.st c : Int)) ∧ w' = w := by
  have h1 : bits .and .u32 (c : Int) 1 = ((c % 2 : Nat) : Int) := by
    have := ba_u32 c 1 hc (by decide)
    rw [Nat.and_one_is_mod] at this
    exact this
  have hd : (c : Int) / 2 = ((c >>> 1 : Nat) : Int) := by rw [Nat.shiftRight_eq_div_pow]; omega
  have hl : c >>> 1 < 4294967296 := by rw [Nat.shiftRight_eq_div_pow]; omega
  by_cases hm : c % 2 = 1
  · have hs : WM.st c = (c >>> 1) ^^^ 3988292384 := by unfold WM.st; rw [if_pos hm]
    have h4 := bx_u32 (c >>> 1) 3988292384 hl (by decide)
    have h3 : bits .and .u32 4294967295 3988292384 = 3988292384 := by decide +kernel
    rw [hm] at h1
    rw [hs]
    have h5 : bits .xor .u32 ((c >>> 1 : Nat) : Int) 3988292384 = ((((c >>> 1) ^^^ 3988292384 : Nat)) : Int) := h4
    rw [← h5, ← hd]
    clear hs h4 hm hl h5 hd
    go_enter Tryz.func105, Tryz.ntmps105
    go_wp2
    go_ret
    exact ⟨rfl, rfl⟩
  · have hm0 : c % 2 = 0 := by omega
    have hs : WM.st c = (c >>> 1) ^^^ 0 := by unfold WM.st; rw [if_neg hm]
    have h4 := bx_u32 (c >>> 1) 0 hl (by decide)
    have h3 : bits .and .u32 0 3988292384 = 0 := by decide +kernel
    rw [hm0] at h1
    rw [hs]
    have h5 : bits .xor .u32 ((c >>> 1 : Nat) : Int) 0 = ((((c >>> 1) ^^^ 0 : Nat)) : Int) := h4
    rw [← h5, ← hd]
    clear hs h4 hm hl h5 hd hm0
    go_enter Tryz.func105, Tryz.ntmps105
    go_wp2
    go_ret
    exact ⟨rfl, rfl⟩
def stN : Nat → Nat → Nat
  | 0, c => c
  | n + 1, c => WM.st (stN n c)
theorem stN_lt : ∀ (n c : Nat), c < 4294967296 → stN n c < 4294967296
  | 0, _, h => h
  | n + 1, c, h => WM.st_lt (stN_lt n c h)
theorem stN_8 (c : Nat) : stN 8 c = WM.tab c := rfl
set_option maxRecDepth 10000 in
theorem times_any (c : Nat) (hc : c < 4294967296) (w : World) : Calls Tryz.prog 104 #[.int .i64 8, .int .u32 (c : Int), .func (.func 105) #[] #[]] w fun e w' => e = .returned (.int .u32 (WM.tab c : Int)) ∧ w' = w := by
  have HC := Lib.hid hc
  clear hc
  go_enter Tryz.func104, Tryz.ntmps104
  go_wp2_with fail
  go_loop [1, 8] (fun u v => ∃ i : Nat, i ≤ 8 ∧ u = .int .u32 (stN i c : Int) ∧ v = .int .i64 i) (fun _ v => 8 - (intOf v).toNat)
  case atStart => exact ⟨0, by omega, rfl, rfl⟩
  case round =>
    obtain ⟨i, hi, rfl, rfl⟩ := hrel
    by_cases hlt : i < 8
    · go_wp2_with fail
      refine (step_any' (stN i c) (stN_lt i c HC.out) w).mono ?_
      rintro e w' ⟨rfl, rfl⟩
      go_wp2_with fail
      go_round
      case rel => exact ⟨i + 1, by omega, rfl, by go_num⟩
      case measure => simp [intOf]; omega
    · obtain rfl : i = 8 := by omega
      go_wp2_with fail
      go_ret
      exact ⟨rfl, rfl⟩
end Go.Proofs.YtmglkhnojimnlaaGreat

/- law09: short; the chapter's examples as plain data. -/
import Derived.Test.YtaemebchblhpcaaDiskNilC
namespace Go.Proofs.Ytaemebchblhpcaa
open Go.RowKit Go.Maps Go.WideMaps

def cutS (s : ByteArray) (k : Nat) : ByteArray := if k < s.size then s.extract 0 k else s
theorem cutS_size (s : ByteArray) (k : Nat) : (cutS s k).size ≤ k ∧ (cutS s k).size ≤ s.size := by
  unfold cutS
  split
  · rw [ByteArray.size_extract]; omega
  · omega
theorem short_any (w : World) (s : ByteArray) (k : Nat) (hs : s.size ≤ maxLen) (hk : k ≤ 1099511627776) :
    Calls Try.prog 10 #[.string s, .int .i64 (k : Int)] w fun e w' => e = .returned (.string (cutS s k)) ∧ w' = w := by
  unfold maxLen at hs
  by_cases h : k < s.size
  · have e : cutS s k = s.extract 0 k := by unfold cutS; rw [if_pos h]
    rw [e]
    clear e
    have h' : (k : Int) < (s.size : Int) := by omega
    go_enter Try.func10, Try.ntmps10
    go_wp2
    go_ret
    exact ⟨rfl, rfl⟩
  · have e : cutS s k = s := by unfold cutS; rw [if_neg h]
    rw [e]
    clear e
    have h' : ¬ (k : Int) < (s.size : Int) := by omega
    go_enter Try.func10, Try.ntmps10
    go_wp2
    go_ret
    exact ⟨rfl, rfl⟩

abbrev sA : ByteArray := ⟨#[97]⟩
abbrev aw (b : List UInt8) (l : Nat) (off : Bool) (left done : Int) : DM.D := ⟨9, [([97], (⟨b.toArray⟩, l))], off, left, done⟩
theorem aw1 : DM.append (DM.new 9) (nm sA) ⟨#[120, 121, 122]⟩ = (0, aw [120, 121, 122] 0 false 0 1) := by kernel_rfl
theorem aw2 : DM.sync (aw [120, 121, 122] 0 false 0 1) (nm sA) = (0, aw [120, 121, 122] 3 false 0 2) := by kernel_rfl
theorem aw3 : DM.append (aw [120, 121, 122] 3 false 0 2) (nm sA) ⟨#[117, 118, 119]⟩ = (0, aw [120, 121, 122, 117, 118, 119] 3 false 0 3) := by kernel_rfl
theorem aw4 : DM.crash (aw [120, 121, 122, 117, 118, 119] 3 false 0 3) [2] = aw [120, 121, 122, 117, 118] 5 false 0 3 := by kernel_rfl
theorem aw5 : DM.read (aw [120, 121, 122, 117, 118] 5 false 0 3) (nm sA) = (⟨#[120, 121, 122, 117, 118]⟩, 0) := by kernel_rfl
theorem aw6 : DM.append (aw [120, 121, 122, 117, 118] 5 false 0 3) (nm sA) ⟨#[49, 50, 51, 52, 53, 54, 55]⟩ = (15, aw [120, 121, 122, 117, 118] 5 false 0 3) := by kernel_rfl
theorem aw7 : DM.crash (aw [120, 121, 122, 117, 118, 119] 3 false 0 3) [2, 1] = aw [120, 121, 122, 117, 137] 5 false 0 3 := by kernel_rfl
theorem aw8 : DM.read (aw [120, 121, 122, 117, 137] 5 false 0 3) (nm sA) = (⟨#[120, 121, 122, 117, 137]⟩, 0) := by kernel_rfl
theorem aw9 : DM.append (DM.arm (aw [120, 121, 122, 117, 137] 5 false 0 3) 1) (nm sA) ⟨#[120]⟩ = (0, aw [120, 121, 122, 117, 137, 120] 5 false 1 4) := by kernel_rfl
theorem aw10 : DM.append (aw [120, 121, 122, 117, 137, 120] 5 false 1 4) (nm sA) ⟨#[120]⟩ = (14, aw [120, 121, 122, 117, 137, 120] 5 true 1 4) := by kernel_rfl
end Go.Proofs.Ytaemebchblhpcaa

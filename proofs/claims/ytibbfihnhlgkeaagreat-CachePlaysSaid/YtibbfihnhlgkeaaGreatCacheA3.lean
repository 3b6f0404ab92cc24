/- The chapter's examples, as plain data. -/
import Derived.Test.YtibbfihnhlgkeaaGreatCacheA2
namespace Go.Proofs.YtibbfihnhlgkeaaGreat
open Go.RowKit Go.Maps Go.WideMaps
open NM (Bs bs ofBs)
open CM (It C)

abbrev entX (b : Nat) (til : Int) (g : Nat) (rv : Value) (u : Int) : It := ⟨g, entE b til, rv, CM.key (entE b til), u⟩
theorem aw_may1 : CM.mayPut ⟨2, 0, []⟩ (entE 97 100) 0 = true := by kernel_rfl
theorem aw_put1 (g : Nat) (rv : Value) (u : Int) : CM.put ⟨2, 0, []⟩ (entX 97 100 g rv u) 0 = ⟨2, 1, [entX 97 100 g rv 1]⟩ := by kernel_rfl
theorem aw_tell1 (g : Nat) (rv : Value) : CM.tell ⟨2, 1, [entX 97 100 g rv 1]⟩ (ofBs (CM.keyB 0 (bs ⟨#[1, 65, 0]⟩) ((1 : Nat) : Int) ((1 : Nat) : Int))) 100 = some (entX 97 100 g rv 1) := by kernel_rfl
theorem aw_used1 (g : Nat) (rv : Value) : CM.used ⟨2, 1, [entX 97 100 g rv 1]⟩ g = ⟨2, 2, [entX 97 100 g rv 2]⟩ := by simp [CM.used]
theorem aw_tell2 (g : Nat) (rv : Value) : CM.tell ⟨2, 2, [entX 97 100 g rv 2]⟩ (ofBs (CM.keyB 0 (bs ⟨#[1, 97, 0]⟩) ((1 : Nat) : Int) ((1 : Nat) : Int))) 101 = none := by kernel_rfl
theorem aw_may2 (g : Nat) (rv : Value) : CM.mayPut ⟨2, 2, [entX 97 100 g rv 2]⟩ (entE 98 100) 0 = true := by kernel_rfl
theorem aw_put2 (g g2 : Nat) (rv rv2 : Value) (u : Int) : CM.put ⟨2, 2, [entX 97 100 g rv 2]⟩ (entX 98 100 g2 rv2 u) 0 = ⟨2, 3, [entX 97 100 g rv 2, entX 98 100 g2 rv2 3]⟩ := by kernel_rfl
theorem aw_may3 (g g2 : Nat) (rv rv2 : Value) : CM.mayPut ⟨2, 3, [entX 97 100 g rv 2, entX 98 100 g2 rv2 3]⟩ (entE 99 100) 0 = true := by kernel_rfl
theorem aw_put3 (g g2 g3 : Nat) (rv rv2 rv3 : Value) (u : Int) : CM.put ⟨2, 3, [entX 97 100 g rv 2, entX 98 100 g2 rv2 3]⟩ (entX 99 100 g3 rv3 u) 0 = ⟨2, 4, [entX 99 100 g3 rv3 4, entX 98 100 g2 rv2 3]⟩ := by kernel_rfl
theorem aw_tell3 (g2 g3 : Nat) (rv2 rv3 : Value) : CM.tell ⟨2, 4, [entX 99 100 g3 rv3 4, entX 98 100 g2 rv2 3]⟩ (ofBs (CM.keyB 0 (bs ⟨#[1, 97, 0]⟩) ((1 : Nat) : Int) ((1 : Nat) : Int))) 50 = none := by kernel_rfl
theorem aw_may4 (g2 g3 : Nat) (rv2 rv3 : Value) : CM.mayPut ⟨2, 4, [entX 99 100 g3 rv3 4, entX 98 100 g2 rv2 3]⟩ { entE 98 100 with rank := 2 } 0 = false := by kernel_rfl
end Go.Proofs.YtibbfihnhlgkeaaGreat

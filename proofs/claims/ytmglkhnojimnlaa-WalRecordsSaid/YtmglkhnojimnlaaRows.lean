/-
  No cell of these rows narrows 'for every input' (looked for: loops, veiled, ifaces, maps, wideKeys, modest, calm, conditions, laid).
  DERIVED. THE GIVEN ROWS OF THIS SEAT. 6 by the template 'for every input the law returns true; each argument reads behind the call as it read before'; 0 by the template 'total and deterministic' (their statements: YtmglkhnojimnlaaTotals.lean).
  GIVEN WITH THE SEED: the statements are not yours to turn. If you find one false, say at which input.
  Laid BY PROGRAM, IN A SANDBOX (cutbox-rows.mjs): the forced cells as the released guide's own fill.sh prints them over the translation 634123ff9611930f… (all of the seat's roots in one cut). By AI agents, Wed Nov 11 2026. No macro, syntax, notation, axiom, sorry.
-/
import Derived.Test.YtmglkhnojimnlaaChecked
import GoSem.Claim
import GoSem.ClaimJoined
import GoSem.ClaimMapViews
import Derived.JoinedTies
import Derived.KernelRfl
namespace Go.Proofs.Ytmglkhnojimnlaa
/- THE CELL 'sum', in the pinned program and in every row, IS THE sha256 OF THE DUMP (.gsa) THAT YtmglkhnojimnlaaProg.lean LOADS. Nothing in Lean hashes anything: it is a label: what it is worth is what the hold of that sum in a sandbox is worth. -/
noncomputable def Try.pinned : Pinned := { name := "ytmglkhnojimnlaa", sum := "634123ff9611930f683ebd62b3918c53a89988e5cb62f3af201667957eeb5e77", checked := Try.checked }
namespace Rows
def none {H : Type} : Left H := { results := [], args := [] }

/-- 'fingerpostlaw10.WalRecords': WHATEVER THE INPUT: true; the input reads as it did. -/
def walRecordsSpec : ChangeSpec := { name := "walRecords", fn := fun _ => fun
  | [d1, d2, d3] => { results := [.lit (.bool true)], args := [d1, d2, d3] }
  | _ => none }
def walRecordsRow : OpenClaim := { program := "ytmglkhnojimnlaa", sum := "634123ff9611930f683ebd62b3918c53a89988e5cb62f3af201667957eeb5e77", func := "fingerpost/fingerpostlaw10.WalRecords", spec := "walRecords", inPlace := ["internal/abi.NoEscape"], unfollowed := true, recurses := true, apart := false }
def WalRecordsSaid : Prop := walRecordsRow.holds Try.pinned (OpenSpec.ofChange walRecordsSpec)

/-- ITS FALSE NEIGHBOUR: 'it returns false'. Refute it at one input. -/
def walRecordsWrong : ChangeSpec := { name := "walRecords", fn := fun _ => fun
  | [d1, d2, d3] => { results := [.lit (.bool false)], args := [d1, d2, d3] }
  | _ => none }
def WalRecordsWrongFalsely : Prop := walRecordsRow.holds Try.pinned (OpenSpec.ofChange walRecordsWrong)

/-- 'fingerpostlaw10.WalTurned': WHATEVER THE INPUT: true; the input reads as it did. -/
def walTurnedSpec : ChangeSpec := { name := "walTurned", fn := fun _ => fun
  | [d1, d2, d3] => { results := [.lit (.bool true)], args := [d1, d2, d3] }
  | _ => none }
def walTurnedRow : OpenClaim := { program := "ytmglkhnojimnlaa", sum := "634123ff9611930f683ebd62b3918c53a89988e5cb62f3af201667957eeb5e77", func := "fingerpost/fingerpostlaw10.WalTurned", spec := "walTurned", inPlace := ["internal/abi.NoEscape"], unfollowed := true, recurses := true, apart := false }
def WalTurnedSaid : Prop := walTurnedRow.holds Try.pinned (OpenSpec.ofChange walTurnedSpec)

/-- ITS FALSE NEIGHBOUR: 'it returns false'. Refute it at one input. -/
def walTurnedWrong : ChangeSpec := { name := "walTurned", fn := fun _ => fun
  | [d1, d2, d3] => { results := [.lit (.bool false)], args := [d1, d2, d3] }
  | _ => none }
def WalTurnedWrongFalsely : Prop := walTurnedRow.holds Try.pinned (OpenSpec.ofChange walTurnedWrong)

/-- 'fingerpostlaw10.WalCuts': WHATEVER THE INPUT: true; the input reads as it did. -/
def walCutsSpec : ChangeSpec := { name := "walCuts", fn := fun _ => fun
  | [d1, d2] => { results := [.lit (.bool true)], args := [d1, d2] }
  | _ => none }
def walCutsRow : OpenClaim := { program := "ytmglkhnojimnlaa", sum := "634123ff9611930f683ebd62b3918c53a89988e5cb62f3af201667957eeb5e77", func := "fingerpost/fingerpostlaw10.WalCuts", spec := "walCuts", inPlace := ["internal/abi.NoEscape"], unfollowed := true, recurses := true, apart := false }
def WalCutsSaid : Prop := walCutsRow.holds Try.pinned (OpenSpec.ofChange walCutsSpec)

/-- ITS FALSE NEIGHBOUR: 'it returns false'. Refute it at one input. -/
def walCutsWrong : ChangeSpec := { name := "walCuts", fn := fun _ => fun
  | [d1, d2] => { results := [.lit (.bool false)], args := [d1, d2] }
  | _ => none }
def WalCutsWrongFalsely : Prop := walCutsRow.holds Try.pinned (OpenSpec.ofChange walCutsWrong)

/-- 'fingerpostlaw10.WalKeeps': WHATEVER THE INPUT: true; the input reads as it did. -/
def walKeepsSpec : ChangeSpec := { name := "walKeeps", fn := fun _ => fun
  | [d] => { results := [.lit (.bool true)], args := [d] }
  | _ => none }
def walKeepsRow : OpenClaim := { program := "ytmglkhnojimnlaa", sum := "634123ff9611930f683ebd62b3918c53a89988e5cb62f3af201667957eeb5e77", func := "fingerpost/fingerpostlaw10.WalKeeps", spec := "walKeeps", inPlace := ["internal/abi.NoEscape"], unfollowed := true, recurses := true, apart := false }
def WalKeepsSaid : Prop := walKeepsRow.holds Try.pinned (OpenSpec.ofChange walKeepsSpec)

/-- ITS FALSE NEIGHBOUR: 'it returns false'. Refute it at one input. -/
def walKeepsWrong : ChangeSpec := { name := "walKeeps", fn := fun _ => fun
  | [d] => { results := [.lit (.bool false)], args := [d] }
  | _ => none }
def WalKeepsWrongFalsely : Prop := walKeepsRow.holds Try.pinned (OpenSpec.ofChange walKeepsWrong)

/-- 'fingerpostlaw10.WalAgain': WHATEVER THE INPUT: true; the input reads as it did. -/
def walAgainSpec : ChangeSpec := { name := "walAgain", fn := fun _ => fun
  | [d1, d2, d3] => { results := [.lit (.bool true)], args := [d1, d2, d3] }
  | _ => none }
def walAgainRow : OpenClaim := { program := "ytmglkhnojimnlaa", sum := "634123ff9611930f683ebd62b3918c53a89988e5cb62f3af201667957eeb5e77", func := "fingerpost/fingerpostlaw10.WalAgain", spec := "walAgain", inPlace := ["internal/abi.NoEscape"], unfollowed := true, recurses := true, apart := false }
def WalAgainSaid : Prop := walAgainRow.holds Try.pinned (OpenSpec.ofChange walAgainSpec)

/-- ITS FALSE NEIGHBOUR: 'it returns false'. Refute it at one input. -/
def walAgainWrong : ChangeSpec := { name := "walAgain", fn := fun _ => fun
  | [d1, d2, d3] => { results := [.lit (.bool false)], args := [d1, d2, d3] }
  | _ => none }
def WalAgainWrongFalsely : Prop := walAgainRow.holds Try.pinned (OpenSpec.ofChange walAgainWrong)

/-- 'fingerpostlaw10.WalNil': WHATEVER THE INPUT: true; the input reads as it did. -/
def walNilSpec : ChangeSpec := { name := "walNil", fn := fun _ => fun
  | [d] => { results := [.lit (.bool true)], args := [d] }
  | _ => none }
def walNilRow : OpenClaim := { program := "ytmglkhnojimnlaa", sum := "634123ff9611930f683ebd62b3918c53a89988e5cb62f3af201667957eeb5e77", func := "fingerpost/fingerpostlaw10.WalNil", spec := "walNil", inPlace := ["internal/abi.NoEscape"], unfollowed := true, recurses := true, apart := false }
def WalNilSaid : Prop := walNilRow.holds Try.pinned (OpenSpec.ofChange walNilSpec)

/-- ITS FALSE NEIGHBOUR: 'it returns false'. Refute it at one input. -/
def walNilWrong : ChangeSpec := { name := "walNil", fn := fun _ => fun
  | [d] => { results := [.lit (.bool false)], args := [d] }
  | _ => none }
def WalNilWrongFalsely : Prop := walNilRow.holds Try.pinned (OpenSpec.ofChange walNilWrong)

/- THE SECOND FORM. 'bulk': how many values and letters a reading holds, each counted each time it is reached (what is shared counts as often as it is met; a slice's spare places count too). A statement '..UptoSaid' is the law's where the arguments, and the package variables that the reading takes, are together of bulk at most 1048576: NARROWER than '..Said'. Prove '..Said' where nothing that the law and all that it calls make is longer than what came in: it says more and counts as full. Else prove '..UptoSaid'. A law counts once. -/
mutual
def uptoBulk {H : Type} : DataW H → Nat
  | .lit (.string bytes) => bytes.length + 1
  | .lit _ => 1
  | .nil => 1
  | .ptr d => uptoBulk d + 1
  | .slice elems spare => uptoBulkAll elems + uptoBulkAll spare + 1
  | .agg parts => uptoBulkAll parts + 1
  | .iface _ d => uptoBulk d + 1
  | .map entries => uptoBulkEntries entries + 1
  | .held _ => 1
def uptoBulkAll {H : Type} : List (DataW H) → Nat
  | [] => 0
  | d :: r => uptoBulk d + uptoBulkAll r
def uptoBulkEntries {H : Type} : List (Lit × DataW H) → Nat
  | [] => 0
  | x :: r => uptoBulkEntry x + uptoBulkEntries r
def uptoBulkEntry {H : Type} : Lit × DataW H → Nat
  | (.string bytes, d) => bytes.length + uptoBulk d + 1
  | (_, d) => uptoBulk d + 1
 end
def uptoSmall : (H : Type) → List (DataW H) → Bool := fun _ ds => decide (uptoBulkAll ds ≤ 1048576)
def OpenSpec.upto (s : _root_.Go.ChangeSpec) : _root_.Go.OpenSpec := { _root_.Go.OpenSpec.ofChange s with cond := some uptoSmall }

/-- 'fingerpostlaw10.WalRecords', WHERE WHAT IT READS IS OF BULK AT MOST 1048576: true; the input reads as it did. -/
def walRecordsUptoRow : OpenClaim := { program := "ytmglkhnojimnlaa", sum := "634123ff9611930f683ebd62b3918c53a89988e5cb62f3af201667957eeb5e77", func := "fingerpost/fingerpostlaw10.WalRecords", spec := "walRecords", inPlace := ["internal/abi.NoEscape"], unfollowed := true, recurses := true, apart := false, narrowed := true }
def WalRecordsUptoSaid : Prop := walRecordsUptoRow.holds Try.pinned (OpenSpec.upto walRecordsSpec)

/-- 'fingerpostlaw10.WalTurned', WHERE WHAT IT READS IS OF BULK AT MOST 1048576: true; the input reads as it did. -/
def walTurnedUptoRow : OpenClaim := { program := "ytmglkhnojimnlaa", sum := "634123ff9611930f683ebd62b3918c53a89988e5cb62f3af201667957eeb5e77", func := "fingerpost/fingerpostlaw10.WalTurned", spec := "walTurned", inPlace := ["internal/abi.NoEscape"], unfollowed := true, recurses := true, apart := false, narrowed := true }
def WalTurnedUptoSaid : Prop := walTurnedUptoRow.holds Try.pinned (OpenSpec.upto walTurnedSpec)

/-- 'fingerpostlaw10.WalCuts', WHERE WHAT IT READS IS OF BULK AT MOST 1048576: true; the input reads as it did. -/
def walCutsUptoRow : OpenClaim := { program := "ytmglkhnojimnlaa", sum := "634123ff9611930f683ebd62b3918c53a89988e5cb62f3af201667957eeb5e77", func := "fingerpost/fingerpostlaw10.WalCuts", spec := "walCuts", inPlace := ["internal/abi.NoEscape"], unfollowed := true, recurses := true, apart := false, narrowed := true }
def WalCutsUptoSaid : Prop := walCutsUptoRow.holds Try.pinned (OpenSpec.upto walCutsSpec)

/-- 'fingerpostlaw10.WalKeeps', WHERE WHAT IT READS IS OF BULK AT MOST 1048576: true; the input reads as it did. -/
def walKeepsUptoRow : OpenClaim := { program := "ytmglkhnojimnlaa", sum := "634123ff9611930f683ebd62b3918c53a89988e5cb62f3af201667957eeb5e77", func := "fingerpost/fingerpostlaw10.WalKeeps", spec := "walKeeps", inPlace := ["internal/abi.NoEscape"], unfollowed := true, recurses := true, apart := false, narrowed := true }
def WalKeepsUptoSaid : Prop := walKeepsUptoRow.holds Try.pinned (OpenSpec.upto walKeepsSpec)

/-- 'fingerpostlaw10.WalAgain', WHERE WHAT IT READS IS OF BULK AT MOST 1048576: true; the input reads as it did. -/
def walAgainUptoRow : OpenClaim := { program := "ytmglkhnojimnlaa", sum := "634123ff9611930f683ebd62b3918c53a89988e5cb62f3af201667957eeb5e77", func := "fingerpost/fingerpostlaw10.WalAgain", spec := "walAgain", inPlace := ["internal/abi.NoEscape"], unfollowed := true, recurses := true, apart := false, narrowed := true }
def WalAgainUptoSaid : Prop := walAgainUptoRow.holds Try.pinned (OpenSpec.upto walAgainSpec)

/-- 'fingerpostlaw10.WalNil', WHERE WHAT IT READS IS OF BULK AT MOST 1048576: true; the input reads as it did. -/
def walNilUptoRow : OpenClaim := { program := "ytmglkhnojimnlaa", sum := "634123ff9611930f683ebd62b3918c53a89988e5cb62f3af201667957eeb5e77", func := "fingerpost/fingerpostlaw10.WalNil", spec := "walNil", inPlace := ["internal/abi.NoEscape"], unfollowed := true, recurses := true, apart := false, narrowed := true }
def WalNilUptoSaid : Prop := walNilUptoRow.holds Try.pinned (OpenSpec.upto walNilSpec)

end Rows
end Go.Proofs.Ytmglkhnojimnlaa

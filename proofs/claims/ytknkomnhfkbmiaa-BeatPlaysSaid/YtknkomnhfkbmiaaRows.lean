/-
  No cell of these rows narrows 'for every input' (looked for: loops, veiled, ifaces, maps, wideKeys, modest, calm, conditions, laid).
  DERIVED. THE GIVEN ROWS OF THIS SEAT. 4 by the template 'for every input the law returns true; each argument reads behind the call as it read before'; 0 by the template 'total and deterministic' (their statements: YtknkomnhfkbmiaaTotals.lean).
  GIVEN WITH THE SEED: the statements are not yours to turn. If you find one false, say at which input.
  Laid BY PROGRAM, IN A SANDBOX (cutbox-rows.mjs): the forced cells as the released guide's own fill.sh prints them over the translation df7f4820f98ddf3e… (all of the seat's roots in one cut). By AI agents, Wed Nov 11 2026. No macro, syntax, notation, axiom, sorry.
-/
import Derived.Test.YtknkomnhfkbmiaaChecked
import GoSem.Claim
import GoSem.ClaimJoined
import GoSem.ClaimMapViews
import Derived.JoinedTies
import Derived.KernelRfl
namespace Go.Proofs.Ytknkomnhfkbmiaa
/- THE CELL 'sum', in the pinned program and in every row, IS THE sha256 OF THE DUMP (.gsa) THAT YtknkomnhfkbmiaaProg.lean LOADS. Nothing in Lean hashes anything: it is a label: what it is worth is what the hold of that sum in a sandbox is worth. -/
noncomputable def Try.pinned : Pinned := { name := "ytknkomnhfkbmiaa", sum := "df7f4820f98ddf3e09d6f68ac082caeba3b1696e5f52ad50e670bcf5229399a1", checked := Try.checked }
namespace Rows
def none {H : Type} : Left H := { results := [], args := [] }

/-- 'fingerpostlaw15.BeatPlays': WHATEVER THE INPUT: true; the input reads as it did. -/
def beatPlaysSpec : ChangeSpec := { name := "beatPlays", fn := fun _ => fun
  | [d1, d2] => { results := [.lit (.bool true)], args := [d1, d2] }
  | _ => none }
def beatPlaysRow : OpenClaim := { program := "ytknkomnhfkbmiaa", sum := "df7f4820f98ddf3e09d6f68ac082caeba3b1696e5f52ad50e670bcf5229399a1", func := "fingerpost/fingerpostlaw15.BeatPlays", spec := "beatPlays", unfollowed := true, recurses := true, apart := false }
def BeatPlaysSaid : Prop := beatPlaysRow.holds Try.pinned (OpenSpec.ofChange beatPlaysSpec)

/-- ITS FALSE NEIGHBOUR: 'it returns false'. Refute it at one input. -/
def beatPlaysWrong : ChangeSpec := { name := "beatPlays", fn := fun _ => fun
  | [d1, d2] => { results := [.lit (.bool false)], args := [d1, d2] }
  | _ => none }
def BeatPlaysWrongFalsely : Prop := beatPlaysRow.holds Try.pinned (OpenSpec.ofChange beatPlaysWrong)

/-- 'fingerpostlaw15.BeatLasts': WHATEVER THE INPUT: true; the input reads as it did. -/
def beatLastsSpec : ChangeSpec := { name := "beatLasts", fn := fun _ => fun
  | [d1, d2, d3] => { results := [.lit (.bool true)], args := [d1, d2, d3] }
  | _ => none }
def beatLastsRow : OpenClaim := { program := "ytknkomnhfkbmiaa", sum := "df7f4820f98ddf3e09d6f68ac082caeba3b1696e5f52ad50e670bcf5229399a1", func := "fingerpost/fingerpostlaw15.BeatLasts", spec := "beatLasts", unfollowed := true, recurses := true, apart := false }
def BeatLastsSaid : Prop := beatLastsRow.holds Try.pinned (OpenSpec.ofChange beatLastsSpec)

/-- ITS FALSE NEIGHBOUR: 'it returns false'. Refute it at one input. -/
def beatLastsWrong : ChangeSpec := { name := "beatLasts", fn := fun _ => fun
  | [d1, d2, d3] => { results := [.lit (.bool false)], args := [d1, d2, d3] }
  | _ => none }
def BeatLastsWrongFalsely : Prop := beatLastsRow.holds Try.pinned (OpenSpec.ofChange beatLastsWrong)

/-- 'fingerpostlaw15.BeatNil': WHATEVER THE INPUT: true; the input reads as it did. -/
def beatNilSpec : ChangeSpec := { name := "beatNil", fn := fun _ => fun
  | [d] => { results := [.lit (.bool true)], args := [d] }
  | _ => none }
def beatNilRow : OpenClaim := { program := "ytknkomnhfkbmiaa", sum := "df7f4820f98ddf3e09d6f68ac082caeba3b1696e5f52ad50e670bcf5229399a1", func := "fingerpost/fingerpostlaw15.BeatNil", spec := "beatNil", unfollowed := true, recurses := true, apart := false }
def BeatNilSaid : Prop := beatNilRow.holds Try.pinned (OpenSpec.ofChange beatNilSpec)

/-- ITS FALSE NEIGHBOUR: 'it returns false'. Refute it at one input. -/
def beatNilWrong : ChangeSpec := { name := "beatNil", fn := fun _ => fun
  | [d] => { results := [.lit (.bool false)], args := [d] }
  | _ => none }
def BeatNilWrongFalsely : Prop := beatNilRow.holds Try.pinned (OpenSpec.ofChange beatNilWrong)

/-- 'fingerpostlaw15.BeatOthers': WHATEVER THE INPUT: true; the input reads as it did. -/
def beatOthersSpec : ChangeSpec := { name := "beatOthers", fn := fun _ => fun
  | [d1, d2, d3] => { results := [.lit (.bool true)], args := [d1, d2, d3] }
  | _ => none }
def beatOthersRow : OpenClaim := { program := "ytknkomnhfkbmiaa", sum := "df7f4820f98ddf3e09d6f68ac082caeba3b1696e5f52ad50e670bcf5229399a1", func := "fingerpost/fingerpostlaw15.BeatOthers", spec := "beatOthers", unfollowed := true, recurses := true, apart := false }
def BeatOthersSaid : Prop := beatOthersRow.holds Try.pinned (OpenSpec.ofChange beatOthersSpec)

/-- ITS FALSE NEIGHBOUR: 'it returns false'. Refute it at one input. -/
def beatOthersWrong : ChangeSpec := { name := "beatOthers", fn := fun _ => fun
  | [d1, d2, d3] => { results := [.lit (.bool false)], args := [d1, d2, d3] }
  | _ => none }
def BeatOthersWrongFalsely : Prop := beatOthersRow.holds Try.pinned (OpenSpec.ofChange beatOthersWrong)

/- THE SECOND FORM. 'bulk': how many values and letters a reading holds, each counted each time it is reached (what is shared counts as often as it is met; a slice's spare places count too). A statement '..UptoSaid' is the law's where the arguments, and the package variables that the reading takes, are together of bulk at most 1048576: NARROWER than '..Said'. Prove '..Said' where nothing that the law and all that it calls make is longer than what came in: it says more and counts as full. Else prove '..UptoSaid'. A law counts once. -/
mutual
def uptoBulk {H : Type} : DataW H → Nat
  | .lit (.string bytes) => bytes.length + 1
  | .lit _ => 1
  | .nil => 1
  | .ptr d => uptoBulk d + 1
  | .slice elems spare => uptoBulkAll elems + uptoBulkAll spare + 1
  | .agg parts => uptoBulkAll parts + 1
  | .iface _ d => uptoBulk d + 1
  | .map entries => uptoBulkEntries entries + 1
  | .held _ => 1
def uptoBulkAll {H : Type} : List (DataW H) → Nat
  | [] => 0
  | d :: r => uptoBulk d + uptoBulkAll r
def uptoBulkEntries {H : Type} : List (Lit × DataW H) → Nat
  | [] => 0
  | x :: r => uptoBulkEntry x + uptoBulkEntries r
def uptoBulkEntry {H : Type} : Lit × DataW H → Nat
  | (.string bytes, d) => bytes.length + uptoBulk d + 1
  | (_, d) => uptoBulk d + 1
 end
def uptoSmall : (H : Type) → List (DataW H) → Bool := fun _ ds => decide (uptoBulkAll ds ≤ 1048576)
def OpenSpec.upto (s : _root_.Go.ChangeSpec) : _root_.Go.OpenSpec := { _root_.Go.OpenSpec.ofChange s with cond := some uptoSmall }

/-- 'fingerpostlaw15.BeatPlays', WHERE WHAT IT READS IS OF BULK AT MOST 1048576: true; the input reads as it did. -/
def beatPlaysUptoRow : OpenClaim := { program := "ytknkomnhfkbmiaa", sum := "df7f4820f98ddf3e09d6f68ac082caeba3b1696e5f52ad50e670bcf5229399a1", func := "fingerpost/fingerpostlaw15.BeatPlays", spec := "beatPlays", unfollowed := true, recurses := true, apart := false, narrowed := true }
def BeatPlaysUptoSaid : Prop := beatPlaysUptoRow.holds Try.pinned (OpenSpec.upto beatPlaysSpec)

/-- 'fingerpostlaw15.BeatLasts', WHERE WHAT IT READS IS OF BULK AT MOST 1048576: true; the input reads as it did. -/
def beatLastsUptoRow : OpenClaim := { program := "ytknkomnhfkbmiaa", sum := "df7f4820f98ddf3e09d6f68ac082caeba3b1696e5f52ad50e670bcf5229399a1", func := "fingerpost/fingerpostlaw15.BeatLasts", spec := "beatLasts", unfollowed := true, recurses := true, apart := false, narrowed := true }
def BeatLastsUptoSaid : Prop := beatLastsUptoRow.holds Try.pinned (OpenSpec.upto beatLastsSpec)

/-- 'fingerpostlaw15.BeatNil', WHERE WHAT IT READS IS OF BULK AT MOST 1048576: true; the input reads as it did. -/
def beatNilUptoRow : OpenClaim := { program := "ytknkomnhfkbmiaa", sum := "df7f4820f98ddf3e09d6f68ac082caeba3b1696e5f52ad50e670bcf5229399a1", func := "fingerpost/fingerpostlaw15.BeatNil", spec := "beatNil", unfollowed := true, recurses := true, apart := false, narrowed := true }
def BeatNilUptoSaid : Prop := beatNilUptoRow.holds Try.pinned (OpenSpec.upto beatNilSpec)

/-- 'fingerpostlaw15.BeatOthers', WHERE WHAT IT READS IS OF BULK AT MOST 1048576: true; the input reads as it did. -/
def beatOthersUptoRow : OpenClaim := { program := "ytknkomnhfkbmiaa", sum := "df7f4820f98ddf3e09d6f68ac082caeba3b1696e5f52ad50e670bcf5229399a1", func := "fingerpost/fingerpostlaw15.BeatOthers", spec := "beatOthers", unfollowed := true, recurses := true, apart := false, narrowed := true }
def BeatOthersUptoSaid : Prop := beatOthersUptoRow.holds Try.pinned (OpenSpec.upto beatOthersSpec)

end Rows
end Go.Proofs.Ytknkomnhfkbmiaa

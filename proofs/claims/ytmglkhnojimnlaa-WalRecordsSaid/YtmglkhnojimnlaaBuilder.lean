/- The builder of texts: its numbers at this program. -/
import Derived.Test.YtmglkhnojimnlaaShelf
import Derived.Test.YtmglkhnojimnlaaMem
namespace Go.Proofs
open Go.Shelf
def Try.writeF_ren : Go.Shelf.Ren := ⟨fun | 166 => 67 | 240 => 79 | 276 => 85 | n => n, fun | 0 => 0 | 3 => 3 | 4 => 4 | 5 => 5 | 9 => 9 | 20 => 20 | 37 => 31 | 70 => 90 | 72 => 92 | 75 => 94 | 80 => 97 | 164 => 109 | n => n, fun | n => n⟩
theorem Try.writeF : Go.Proofs.Lays.n166 Try.prog Try.writeF_ren := {
  mixed := by kernel_rfl
  f166 := Try.func67.trans (congrArg some (by kernel_rfl))
  f240 := Try.func79.trans (congrArg some (by kernel_rfl))
  f276 := Try.func85.trans (congrArg some (by kernel_rfl))
  t0 := Try.underlying0
  a0 := Try.isAgg0
  z0 := Try.sizeOf0
  v0 := Try.zeroValue0
  t3 := Try.underlying3
  a3 := Try.isAgg3
  z3 := Try.sizeOf3
  v3 := Try.zeroValue3
  t4 := Try.underlying4
  a4 := Try.isAgg4
  z4 := Try.sizeOf4
  v4 := Try.zeroValue4
  t9 := Try.underlying9
  a9 := Try.isAgg9
  z9 := Try.sizeOf9
  v9 := Try.zeroValue9
  t20 := Try.underlying20
  a20 := Try.isAgg20
  z20 := Try.sizeOf20
  v20 := Try.zeroValue20
  t37 := Try.underlying31
  a37 := Try.isAgg31
  z37 := Try.sizeOf31
  v37 := Try.zeroValue31
  t70 := Try.underlying90
  a70 := Try.isAgg90
  z70 := Try.sizeOf90
  v70 := Try.zeroValue90
  t72 := Try.underlying92
  a72 := Try.isAgg92
  z72 := Try.sizeOf92
  v72 := Try.zeroValue92
  t75 := Try.underlying94
  a75 := Try.isAgg94
  z75 := Try.sizeOf94
  v75 := Try.zeroValue94
  t164 := Try.underlying109
  a164 := Try.isAgg109
  z164 := Try.sizeOf109
  v164 := Try.zeroValue109 }
theorem Try.builderX_166 : Go.Proofs.Builder.Extra Try.prog Try.writeF_ren where
  sizeBuilder := by kernel_rfl
  liesBuilder := by kernel_rfl
  t5 := Try.underlying5
  a5 := Try.isAgg5
  z5 := Try.sizeOf5
  v5 := Try.zeroValue5
  infoByte := by kernel_rfl
  cellsByte := by kernel_rfl
  sizeByte := by kernel_rfl
  neB5 := by decide
theorem Try.builderX_169 : Go.Proofs.Builder.Extra Try.prog Try.textF_ren where
  sizeBuilder := by kernel_rfl
  liesBuilder := by kernel_rfl
  t5 := Try.underlying5
  a5 := Try.isAgg5
  z5 := Try.sizeOf5
  v5 := Try.zeroValue5
  infoByte := by kernel_rfl
  cellsByte := by kernel_rfl
  sizeByte := by kernel_rfl
  neB5 := by decide
open Go.RowKit in
theorem Ytmglkhnojimnlaa.bwrite_any (B b : Nat) (bs : List Value) (s : ByteArray) (w : World) (h : Lib.IsBuilderF 92 5 B b bs w) (hlen : bs.length + s.size ≤ 140737488355328) (hBw : B ≤ w.heap.size) :
    Calls Try.prog 67 #[.pointer (some ⟨b, 0, none⟩), .string s] w fun e w' => e = .returned (.tuple #[.int .i64 s.size, .nilIface]) ∧ (Lib.BuilderAtF 92 5 B b (.pointer (some ⟨b, 0, none⟩)) (bs ++ Lib.strCells s) w' ∧ Below B w w') :=
  Any.Builder_WriteString_f Try.writeF Try.builderX_166 B b bs s w h hlen hBw
open Go.RowKit in
theorem Ytmglkhnojimnlaa.btext_any (B b : Nat) (l : List UInt8) (w : World) (h : Lib.IsBuilderF 92 5 B b (Lib.byteCells l) w) (hBw : B ≤ w.heap.size) :
    Calls Try.prog 68 #[.pointer (some ⟨b, 0, none⟩)] w fun e w' => e = .returned (.string ⟨l.toArray⟩) ∧ (Lib.IsBuilderF 92 5 B b (Lib.byteCells l) w' ∧ Below B w w') :=
  Any.Builder_String_any_f Try.textF Try.builderX_169 B b l w h hBw
end Go.Proofs
namespace Go.Proofs.Ytmglkhnojimnlaa
open Go.RowKit Go.Maps
theorem builder_new (w : World) : Lib.IsBuilderF 92 5 w.heap.size w.heap.size (Lib.byteCells []) (w.alloc (.cells #[.pointer none, .slice none 0 0] 92)) :=
  .inl ⟨Nat.le_refl _, _, (MapKept.heap_alloc w _).1, World.ownsRowF_nil _ _ _ _, by simp [Value.ownBlock]⟩
theorem builder_touch {B b : Nat} {bs : List Value} {w w' : World} (h : Lib.IsBuilderF 92 5 B b bs w) (ht : Touch [] w w') : Lib.IsBuilderF 92 5 B b bs w' := by
  have hg : w.grownBy w' none := ⟨ht.os, ht.tape, ht.output, ht.size, fun k hk _ => ht.block k hk (by simp)⟩
  rcases h with ⟨hB, v, hb, hown, hne⟩ | ⟨hB, v, hb, hown, hne⟩
  · exact .inl ⟨hB, v, ht.heap hb (by simp), hown.kept hg (by cases v.ownBlock <;> simp), hne⟩
  · exact .inr ⟨hB, v, ht.heap hb (by simp), hown.kept hg (by cases v.ownBlock <;> simp), hne⟩
end Go.Proofs.Ytmglkhnojimnlaa

/- The builder of texts: its numbers at this program. -/
import Derived.Test.YtmglkhnojimnlaaGreatShelf
import Derived.Test.YtmglkhnojimnlaaGreatMem
namespace Go.Proofs
open Go.Shelf
def Tryz.writeF_ren : Go.Shelf.Ren := ⟨fun | 166 => 81 | 240 => 99 | 276 => 106 | n => n, fun | 0 => 0 | 3 => 3 | 4 => 4 | 5 => 5 | 9 => 9 | 20 => 20 | 37 => 85 | 70 => 102 | 72 => 104 | 75 => 106 | 80 => 109 | 164 => 128 | n => n, fun | n => n⟩
theorem Tryz.writeF : Go.Proofs.Lays.n166 Tryz.prog Tryz.writeF_ren := {
  mixed := by kernel_rfl
  f166 := Tryz.func81.trans (congrArg some (by kernel_rfl))
  f240 := Tryz.func99.trans (congrArg some (by kernel_rfl))
  f276 := Tryz.func106.trans (congrArg some (by kernel_rfl))
  t0 := Tryz.underlying0
  a0 := Tryz.isAgg0
  z0 := Tryz.sizeOf0
  v0 := Tryz.zeroValue0
  t3 := Tryz.underlying3
  a3 := Tryz.isAgg3
  z3 := Tryz.sizeOf3
  v3 := Tryz.zeroValue3
  t4 := Tryz.underlying4
  a4 := Tryz.isAgg4
  z4 := Tryz.sizeOf4
  v4 := Tryz.zeroValue4
  t9 := Tryz.underlying9
  a9 := Tryz.isAgg9
  z9 := Tryz.sizeOf9
  v9 := Tryz.zeroValue9
  t20 := Tryz.underlying20
  a20 := Tryz.isAgg20
  z20 := Tryz.sizeOf20
  v20 := Tryz.zeroValue20
  t37 := Tryz.underlying85
  a37 := Tryz.isAgg85
  z37 := Tryz.sizeOf85
  v37 := Tryz.zeroValue85
  t70 := Tryz.underlying102
  a70 := Tryz.isAgg102
  z70 := Tryz.sizeOf102
  v70 := Tryz.zeroValue102
  t72 := Tryz.underlying104
  a72 := Tryz.isAgg104
  z72 := Tryz.sizeOf104
  v72 := Tryz.zeroValue104
  t75 := Tryz.underlying106
  a75 := Tryz.isAgg106
  z75 := Tryz.sizeOf106
  v75 := Tryz.zeroValue106
  t164 := Tryz.underlying128
  a164 := Tryz.isAgg128
  z164 := Tryz.sizeOf128
  v164 := Tryz.zeroValue128 }
theorem Tryz.builderX_166 : Go.Proofs.Builder.Extra Tryz.prog Tryz.writeF_ren where
  sizeBuilder := by kernel_rfl
  liesBuilder := by kernel_rfl
  t5 := Tryz.underlying5
  a5 := Tryz.isAgg5
  z5 := Tryz.sizeOf5
  v5 := Tryz.zeroValue5
  infoByte := by kernel_rfl
  cellsByte := by kernel_rfl
  sizeByte := by kernel_rfl
  neB5 := by decide
theorem Tryz.builderX_169 : Go.Proofs.Builder.Extra Tryz.prog Tryz.textF_ren where
  sizeBuilder := by kernel_rfl
  liesBuilder := by kernel_rfl
  t5 := Tryz.underlying5
  a5 := Tryz.isAgg5
  z5 := Tryz.sizeOf5
  v5 := Tryz.zeroValue5
  infoByte := by kernel_rfl
  cellsByte := by kernel_rfl
  sizeByte := by kernel_rfl
  neB5 := by decide
open Go.RowKit in
theorem YtmglkhnojimnlaaGreat.bwrite_any (B b : Nat) (bs : List Value) (s : ByteArray) (w : World) (h : Lib.IsBuilderF 104 5 B b bs w) (hlen : bs.length + s.size ≤ 140737488355328) (hBw : B ≤ w.heap.size) :
    Calls Tryz.prog 81 #[.pointer (some ⟨b, 0, none⟩), .string s] w fun e w' => e = .returned (.tuple #[.int .i64 s.size, .nilIface]) ∧ (Lib.BuilderAtF 104 5 B b (.pointer (some ⟨b, 0, none⟩)) (bs ++ Lib.strCells s) w' ∧ Below B w w') :=
  Any.Builder_WriteString_f Tryz.writeF Tryz.builderX_166 B b bs s w h hlen hBw
open Go.RowKit in
theorem YtmglkhnojimnlaaGreat.btext_any (B b : Nat) (l : List UInt8) (w : World) (h : Lib.IsBuilderF 104 5 B b (Lib.byteCells l) w) (hBw : B ≤ w.heap.size) :
    Calls Tryz.prog 82 #[.pointer (some ⟨b, 0, none⟩)] w fun e w' => e = .returned (.string ⟨l.toArray⟩) ∧ (Lib.IsBuilderF 104 5 B b (Lib.byteCells l) w' ∧ Below B w w') :=
  Any.Builder_String_any_f Tryz.textF Tryz.builderX_169 B b l w h hBw
end Go.Proofs
namespace Go.Proofs.YtmglkhnojimnlaaGreat
open Go.RowKit Go.Maps
theorem builder_new (w : World) : Lib.IsBuilderF 104 5 w.heap.size w.heap.size (Lib.byteCells []) (w.alloc (.cells #[.pointer none, .slice none 0 0] 104)) :=
  .inl ⟨Nat.le_refl _, _, (MapKept.heap_alloc w _).1, World.ownsRowF_nil _ _ _ _, by simp [Value.ownBlock]⟩
theorem builder_touch {B b : Nat} {bs : List Value} {w w' : World} (h : Lib.IsBuilderF 104 5 B b bs w) (ht : Touch [] w w') : Lib.IsBuilderF 104 5 B b bs w' := by
  have hg : w.grownBy w' none := ⟨ht.os, ht.tape, ht.output, ht.size, fun k hk _ => ht.block k hk (by simp)⟩
  rcases h with ⟨hB, v, hb, hown, hne⟩ | ⟨hB, v, hb, hown, hne⟩
  · exact .inl ⟨hB, v, ht.heap hb (by simp), hown.kept hg (by cases v.ownBlock <;> simp), hne⟩
  · exact .inr ⟨hB, v, ht.heap hb (by simp), hown.kept hg (by cases v.ownBlock <;> simp), hne⟩
end Go.Proofs.YtmglkhnojimnlaaGreat

/- Bits of numbers, as plain data: xor and and of bytes and of words of 32 bits. -/
import Derived.Test.YtmglkhnojimnlaaGreatMem
import Derived.Laws.Entries
namespace Go.Proofs.YtmglkhnojimnlaaGreat
open Go

theorem bx_u32 (a b : Nat) (ha : a < 4294967296) (hb : b < 4294967296) : bits .xor .u32 (a : Int) (b : Int) = ((a ^^^ b : Nat) : Int) := by
  unfold bits
  have h1 : (BitVec.ofInt IntKind.u32.bits (a : Int)).toNat = a := by
    show (BitVec.ofInt 32 (a : Int)).toNat = a
    simp [BitVec.toNat_ofInt]; omega
  have h2 : (BitVec.ofInt IntKind.u32.bits (b : Int)).toNat = b := by
    show (BitVec.ofInt 32 (b : Int)).toNat = b
    simp [BitVec.toNat_ofInt]; omega
  have h3 : a ^^^ b < 4294967296 := Nat.xor_lt_two_pow (n := 32) ha hb
  simp only [BitVec.toNat_xor, h1, h2]
  rw [IntKind.wrap_u32]
  omega
theorem ba_u32 (a b : Nat) (ha : a < 4294967296) (hb : b < 4294967296) : bits .and .u32 (a : Int) (b : Int) = ((a &&& b : Nat) : Int) := by
  unfold bits
  have h1 : (BitVec.ofInt IntKind.u32.bits (a : Int)).toNat = a := by
    show (BitVec.ofInt 32 (a : Int)).toNat = a
    simp [BitVec.toNat_ofInt]; omega
  have h2 : (BitVec.ofInt IntKind.u32.bits (b : Int)).toNat = b := by
    show (BitVec.ofInt 32 (b : Int)).toNat = b
    simp [BitVec.toNat_ofInt]; omega
  have h3 : a &&& b < 4294967296 := Nat.and_lt_two_pow (n := 32) _ hb
  simp only [BitVec.toNat_and, h1, h2]
  rw [IntKind.wrap_u32]
  omega
theorem bx_u8 (a b : Nat) (ha : a < 256) (hb : b < 256) : bits .xor .u8 (a : Int) (b : Int) = ((a ^^^ b : Nat) : Int) := by
  unfold bits
  have h1 : (BitVec.ofInt IntKind.u8.bits (a : Int)).toNat = a := by
    show (BitVec.ofInt 8 (a : Int)).toNat = a
    simp [BitVec.toNat_ofInt]; omega
  have h2 : (BitVec.ofInt IntKind.u8.bits (b : Int)).toNat = b := by
    show (BitVec.ofInt 8 (b : Int)).toNat = b
    simp [BitVec.toNat_ofInt]; omega
  have h3 : a ^^^ b < 256 := Nat.xor_lt_two_pow (n := 8) ha hb
  simp only [BitVec.toNat_xor, h1, h2]
  rw [IntKind.wrap_u8]
  omega
end Go.Proofs.YtmglkhnojimnlaaGreat

/- The document's key. -/
import Derived.Test.YtibbfihnhlgkeaaGreatCacheK
namespace Go.Proofs.YtibbfihnhlgkeaaGreat
open Go.RowKit Go.Maps Go.Shelf
open NM (Bs bs ofBs)

set_option maxRecDepth 10000 in
set_option maxHeartbeats 4000000 in
theorem rkey_any (w : World) (nb : Bool) (p : Nat) (hnp : p = if nb = true then 1 else 0) (n : ByteArray) (hn : n.size ≤ 1099511627776) (t0 t c : Nat) (ht0 : t = if nb = true then 0 else t0) :
    Calls Tryz.prog 29 #[.bool nb, .string n, .int .u16 (t0 : Int), .int .u16 (c : Int)] w fun e w' => e = .returned (.string (ofBs (CM.keyB p (bs n) (t : Int) (c : Int)))) ∧ Touch [] w w' := by
  have hp : p < 256 := by rw [hnp]; split <;> decide
  have HLO := Lib.hid (fun W => rlower_any W n hn)
  have hone := conv_one p hp
  have hfour := conv_four2 t c
  have hfour1 := conv_four t c
  obtain ⟨K, hK⟩ : ∃ K, K = ofBs (CM.keyB p (bs n) (t : Int) (c : Int)) := ⟨_, rfl⟩
  have hK2 : K = (ofBs [UInt8.ofNat p] ++ ofBs (NM.lower (bs n))) ++ ofBs [UInt8.ofNat (t / 256), UInt8.ofNat t, UInt8.ofNat (c / 256), UInt8.ofNat c] := by
    rw [hK, ← NM.ofBs_append, ← NM.ofBs_append]
    rfl
  rw [← hK]
  obtain ⟨P1, hP1⟩ : ∃ x, x = ofBs [UInt8.ofNat p] := ⟨_, rfl⟩
  obtain ⟨P2, hP2⟩ : ∃ x, x = ofBs (NM.lower (bs n)) := ⟨_, rfl⟩
  obtain ⟨P3, hP3⟩ : ∃ x, x = ofBs [UInt8.ofNat (t / 256), UInt8.ofNat t, UInt8.ofNat (c / 256), UInt8.ofNat c] := ⟨_, rfl⟩
  rw [← hP1] at hone hK2
  rw [← hP2] at HLO hK2
  rw [← hP3] at hfour hfour1 hK2
  have hz1 : P1.size = 1 := by rw [hP1, NM.ofBs_size]; rfl
  have hz2 : P2.size = n.size := by rw [hP2, NM.ofBs_size, NM.lower_length, NM.bs_length]
  have hz3 : P3.size = 4 := by rw [hP3, NM.ofBs_size]; rfl
  have z12 : P1.size + P2.size ≤ 9223372036854775807 := by omega
  have z123 : P1.size + P2.size + P3.size ≤ 9223372036854775807 := by omega
  have z3 : (P1 ++ P2).size + P3.size ≤ 9223372036854775807 := by rw [ByteArray.size_append]; omega
  clear hz1 hz2 hz3
  have HK := Lib.hid hK2
  clear hK hK2 hP1 hP2 hP3 hp hn
  have HNP := Lib.hid (And.intro hnp ht0)
  clear hnp ht0
  have k1 : ∀ o, (((w.alloc (.cells #[.int .u8 (p : Int)] 5)).drew).alloc o).cell? ⟨w.heap.size, 0, none⟩ = some (.int .u8 (p : Int)) := fun o => ((Blk.new w 5 #[.int .u8 (p : Int)]).drew.alloc o).cell 0
  have f0 : ∀ o, (((w.alloc (.cells #[.int .u8 (IntKind.u8.wrap ((t : Int) / 256)), .int .u8 (IntKind.u8.wrap (t : Int)), .int .u8 (IntKind.u8.wrap ((c : Int) / 256)), .int .u8 (IntKind.u8.wrap (c : Int))] 5)).drew).alloc o).cell? ⟨w.heap.size, 0, none⟩ = some (.int .u8 (IntKind.u8.wrap ((t : Int) / 256))) := fun o => ((Blk.new w 5 #[.int .u8 (IntKind.u8.wrap ((t : Int) / 256)), .int .u8 (IntKind.u8.wrap (t : Int)), .int .u8 (IntKind.u8.wrap ((c : Int) / 256)), .int .u8 (IntKind.u8.wrap (c : Int))]).drew.alloc o).cell 0
  have f1 : ∀ o, (((w.alloc (.cells #[.int .u8 (IntKind.u8.wrap ((t : Int) / 256)), .int .u8 (IntKind.u8.wrap (t : Int)), .int .u8 (IntKind.u8.wrap ((c : Int) / 256)), .int .u8 (IntKind.u8.wrap (c : Int))] 5)).drew).alloc o).cell? ⟨w.heap.size, 1, none⟩ = some (.int .u8 (IntKind.u8.wrap (t : Int))) := fun o => ((Blk.new w 5 #[.int .u8 (IntKind.u8.wrap ((t : Int) / 256)), .int .u8 (IntKind.u8.wrap (t : Int)), .int .u8 (IntKind.u8.wrap ((c : Int) / 256)), .int .u8 (IntKind.u8.wrap (c : Int))]).drew.alloc o).cell 1
  have f2 : ∀ o, (((w.alloc (.cells #[.int .u8 (IntKind.u8.wrap ((t : Int) / 256)), .int .u8 (IntKind.u8.wrap (t : Int)), .int .u8 (IntKind.u8.wrap ((c : Int) / 256)), .int .u8 (IntKind.u8.wrap (c : Int))] 5)).drew).alloc o).cell? ⟨w.heap.size, 2, none⟩ = some (.int .u8 (IntKind.u8.wrap ((c : Int) / 256))) := fun o => ((Blk.new w 5 #[.int .u8 (IntKind.u8.wrap ((t : Int) / 256)), .int .u8 (IntKind.u8.wrap (t : Int)), .int .u8 (IntKind.u8.wrap ((c : Int) / 256)), .int .u8 (IntKind.u8.wrap (c : Int))]).drew.alloc o).cell 2
  have f3 : ∀ o, (((w.alloc (.cells #[.int .u8 (IntKind.u8.wrap ((t : Int) / 256)), .int .u8 (IntKind.u8.wrap (t : Int)), .int .u8 (IntKind.u8.wrap ((c : Int) / 256)), .int .u8 (IntKind.u8.wrap (c : Int))] 5)).drew).alloc o).cell? ⟨w.heap.size, 3, none⟩ = some (.int .u8 (IntKind.u8.wrap (c : Int))) := fun o => ((Blk.new w 5 #[.int .u8 (IntKind.u8.wrap ((t : Int) / 256)), .int .u8 (IntKind.u8.wrap (t : Int)), .int .u8 (IntKind.u8.wrap ((c : Int) / 256)), .int .u8 (IntKind.u8.wrap (c : Int))]).drew.alloc o).cell 3
  go_enter Tryz.func29, Tryz.ntmps29
  go_upto_if 10 with (fail)
  go_cut [9, 2] from 10 to 11 (fun s9 s2 wx => s9 = .int .u8 (p : Int) ∧ s2 = .int .u16 (t : Int) ∧ wx = w)
  case first =>
    clear hone hfour hfour1 k1 f0 f1 f2 f3 z12 z123 z3
    cases nb with
    | true =>
      go_wp2_with fail
      go_meet
      exact ⟨by rw [HNP.out.1]; rfl, by rw [HNP.out.2]; rfl, rfl⟩
    | false =>
      go_wp2_with fail
      go_meet
      exact ⟨by rw [HNP.out.1]; rfl, by rw [HNP.out.2]; rfl, rfl⟩
  case rest =>
  obtain ⟨rfl, rfl, hw⟩ := hcut
  obtain rfl := hw.symm
  go_wp2_with fail
  first
    | (go_region_with
    (first
      | (go_at_call 48
         refine (HLO.out _).mono ?_
         rintro e w1 ⟨rfl, T1⟩
         have y1 := fun b i (hb : b < _) => World.cell?_of_block (a := (⟨b, i, none⟩ : Addr)) (T1.block b hb (by simp))
         have y2 := fun o b i (hb : b < _) => (World.cell?_of_block (w := w1) (w' := w1.alloc o) (a := (⟨b, i, none⟩ : Addr)) (heap_old w1 o (Nat.lt_of_lt_of_le hb T1.size))).trans (y1 b i hb)
         try have y3 := fun i => World.cell?_of_block (a := (⟨w.heap.size, i, none⟩ : Addr)) (T1.block w.heap.size (by first | (simp; done) | (simp; omega)) (by simp))
         try have y4 := fun i => World.cell?_of_block (a := (⟨w.heap.size + 1, i, none⟩ : Addr)) (T1.block (w.heap.size + 1) (by first | (simp; done) | (simp; omega)) (by simp)))))
    | fail "region"
  all_goals
    as_aux_lemma =>
      go_wp2_with fail
      go_ret
      refine ⟨by rw [HK.out]; rfl, ?_⟩
      repeat' (first | exact Touch.refl _ _ | refine Touch.drew_ ?_ | refine Touch.alloc ?_ _ | refine Touch.trans ?_ T1 (by simp))
end Go.Proofs.YtibbfihnhlgkeaaGreat

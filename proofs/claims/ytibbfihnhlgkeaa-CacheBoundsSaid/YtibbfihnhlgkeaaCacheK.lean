/- Package cache: keyOf; the document's key. -/
import Derived.Test.YtibbfihnhlgkeaaCacheC
namespace Go.Proofs.Ytibbfihnhlgkeaa
open Go.RowKit Go.Maps Go.Shelf
open NM (Bs bs ofBs)

theorem u8_wrap (n : Nat) : IntKind.u8.wrap (n : Int) = ((UInt8.ofNat n).toNat : Int) := by
  rw [IntKind.wrap_u8, UInt8.toNat_ofNat']
  omega
theorem u8_wrap_div (n : Nat) : IntKind.u8.wrap ((n : Int) / 256) = ((UInt8.ofNat (n / 256)).toNat : Int) := by
  rw [← u8_wrap]
  congr 1
theorem conv_cells (W : World) (g cap : Nat) (l : Bs) (h : ∀ j (hj : j < l.length), W.cell? ⟨g, j, none⟩ = some (.int .u8 (l[j].toNat : Int))) : (convert 83 9 (.slice (some ⟨g, 0, none⟩) l.length cap)).run Try.prog W = .ok (.string (ofBs l)) W := by
  have := run_convert_bytes_back (P := Try.prog) W 83 9 5 ⟨g, 0, none⟩ cap l Try.underlying83 Try.underlying5 Try.underlying9 (fun j hj => by
    have e : (⟨g, 0, none⟩ : Addr).add j = ⟨g, j, none⟩ := by unfold Addr.add; split <;> simp_all
    rw [e]
    exact h j hj)
  exact this
theorem conv_one (p : Nat) (hp : p < 256) (W : World) (g : Nat) (h : W.cell? ⟨g, 0, none⟩ = some (.int .u8 (p : Int))) : (convert 83 9 (.slice (some ⟨g, 0, none⟩) 1 1)).run Try.prog W = .ok (.string (ofBs [UInt8.ofNat p])) W :=
  conv_cells W g 1 [UInt8.ofNat p] (fun j hj => by
    obtain rfl : j = 0 := by simpa using hj
    rw [h]
    have : ((UInt8.ofNat p).toNat : Int) = (p : Int) := by rw [UInt8.toNat_ofNat']; omega
    simp only [List.getElem_cons_zero]
    rw [this])
theorem conv_four (t c : Nat) (W : World) (g : Nat) (h0 : W.cell? ⟨g, 0, none⟩ = some (.int .u8 (IntKind.u8.wrap ((t : Int) / 256)))) (h1 : W.cell? ⟨g, 1, none⟩ = some (.int .u8 (IntKind.u8.wrap (t : Int))))
    (h2 : W.cell? ⟨g, 2, none⟩ = some (.int .u8 (IntKind.u8.wrap ((c : Int) / 256)))) (h3 : W.cell? ⟨g, 3, none⟩ = some (.int .u8 (IntKind.u8.wrap (c : Int)))) :
    (convert 83 9 (.slice (some ⟨g, 0, none⟩) 4 4)).run Try.prog W = .ok (.string (ofBs [UInt8.ofNat (t / 256), UInt8.ofNat t, UInt8.ofNat (c / 256), UInt8.ofNat c])) W :=
  conv_cells W g 4 [UInt8.ofNat (t / 256), UInt8.ofNat t, UInt8.ofNat (c / 256), UInt8.ofNat c] (fun j hj => by
    match j, hj with
    | 0, _ => rw [h0, u8_wrap_div]; rfl
    | 1, _ => rw [h1, u8_wrap]; rfl
    | 2, _ => rw [h2, u8_wrap_div]; rfl
    | 3, _ => rw [h3, u8_wrap]; rfl)
theorem conv_four2 (t c : Nat) (W : World) (g : Nat) (h0 : W.cell? ⟨g, 0, none⟩ = some (.int .u8 ((t : Int) / 256 % 256))) (h1 : W.cell? ⟨g, 1, none⟩ = some (.int .u8 ((t : Int) % 256)))
    (h2 : W.cell? ⟨g, 2, none⟩ = some (.int .u8 ((c : Int) / 256 % 256))) (h3 : W.cell? ⟨g, 3, none⟩ = some (.int .u8 ((c : Int) % 256))) :
    (convert 83 9 (.slice (some ⟨g, 0, none⟩) 4 4)).run Try.prog W = .ok (.string (ofBs [UInt8.ofNat (t / 256), UInt8.ofNat t, UInt8.ofNat (c / 256), UInt8.ofNat c])) W := by
  refine conv_four t c W g ?_ ?_ ?_ ?_
  · rw [h0, IntKind.wrap_u8]
  · rw [h1, IntKind.wrap_u8]
  · rw [h2, IntKind.wrap_u8]
  · rw [h3, IntKind.wrap_u8]
set_option maxRecDepth 10000 in
set_option maxHeartbeats 4000000 in
theorem keyOf_any (w : World) (p : Nat) (hp : p < 256) (n : ByteArray) (hn : n.size ≤ 1099511627776) (t c : Nat) :
    Calls Try.prog 40 #[.int .u8 (p : Int), .string n, .int .u16 (t : Int), .int .u16 (c : Int)] w fun e w' => e = .returned (.string (ofBs (CM.keyB p (bs n) (t : Int) (c : Int)))) ∧ Touch [] w w' := by
  have HLO := Lib.hid (fun W => nlower_any W n hn)
  have hone := conv_one p hp
  have hfour := conv_four2 t c
  have hfour1 := conv_four t c
  obtain ⟨K, hK⟩ : ∃ K, K = ofBs (CM.keyB p (bs n) (t : Int) (c : Int)) := ⟨_, rfl⟩
  have hK2 : K = (ofBs [UInt8.ofNat p] ++ ofBs (NM.lower (bs n))) ++ ofBs [UInt8.ofNat (t / 256), UInt8.ofNat t, UInt8.ofNat (c / 256), UInt8.ofNat c] := by
    rw [hK, ← NM.ofBs_append, ← NM.ofBs_append]
    rfl
  rw [← hK]
  obtain ⟨P1, hP1⟩ : ∃ x, x = ofBs [UInt8.ofNat p] := ⟨_, rfl⟩
  obtain ⟨P2, hP2⟩ : ∃ x, x = ofBs (NM.lower (bs n)) := ⟨_, rfl⟩
  obtain ⟨P3, hP3⟩ : ∃ x, x = ofBs [UInt8.ofNat (t / 256), UInt8.ofNat t, UInt8.ofNat (c / 256), UInt8.ofNat c] := ⟨_, rfl⟩
  rw [← hP1] at hone hK2
  rw [← hP2] at HLO hK2
  rw [← hP3] at hfour hfour1 hK2
  have hz1 : P1.size = 1 := by rw [hP1, NM.ofBs_size]; rfl
  have hz2 : P2.size = n.size := by rw [hP2, NM.ofBs_size, NM.lower_length, NM.bs_length]
  have hz3 : P3.size = 4 := by rw [hP3, NM.ofBs_size]; rfl
  have z12 : P1.size + P2.size ≤ 9223372036854775807 := by omega
  have z123 : P1.size + P2.size + P3.size ≤ 9223372036854775807 := by omega
  have z3 : (P1 ++ P2).size + P3.size ≤ 9223372036854775807 := by rw [ByteArray.size_append]; omega
  clear hz1 hz2 hz3
  have HK := Lib.hid hK2
  clear hK hK2 hP1 hP2 hP3 hp hn
  have k1 : ∀ o, (((w.alloc (.cells #[.int .u8 (p : Int)] 5)).drew).alloc o).cell? ⟨w.heap.size, 0, none⟩ = some (.int .u8 (p : Int)) := fun o => ((Blk.new w 5 #[.int .u8 (p : Int)]).drew.alloc o).cell 0
  have f0 : ∀ o, (((w.alloc (.cells #[.int .u8 (IntKind.u8.wrap ((t : Int) / 256)), .int .u8 (IntKind.u8.wrap (t : Int)), .int .u8 (IntKind.u8.wrap ((c : Int) / 256)), .int .u8 (IntKind.u8.wrap (c : Int))] 5)).drew).alloc o).cell? ⟨w.heap.size, 0, none⟩ = some (.int .u8 (IntKind.u8.wrap ((t : Int) / 256))) := fun o => ((Blk.new w 5 #[.int .u8 (IntKind.u8.wrap ((t : Int) / 256)), .int .u8 (IntKind.u8.wrap (t : Int)), .int .u8 (IntKind.u8.wrap ((c : Int) / 256)), .int .u8 (IntKind.u8.wrap (c : Int))]).drew.alloc o).cell 0
  have f1 : ∀ o, (((w.alloc (.cells #[.int .u8 (IntKind.u8.wrap ((t : Int) / 256)), .int .u8 (IntKind.u8.wrap (t : Int)), .int .u8 (IntKind.u8.wrap ((c : Int) / 256)), .int .u8 (IntKind.u8.wrap (c : Int))] 5)).drew).alloc o).cell? ⟨w.heap.size, 1, none⟩ = some (.int .u8 (IntKind.u8.wrap (t : Int))) := fun o => ((Blk.new w 5 #[.int .u8 (IntKind.u8.wrap ((t : Int) / 256)), .int .u8 (IntKind.u8.wrap (t : Int)), .int .u8 (IntKind.u8.wrap ((c : Int) / 256)), .int .u8 (IntKind.u8.wrap (c : Int))]).drew.alloc o).cell 1
  have f2 : ∀ o, (((w.alloc (.cells #[.int .u8 (IntKind.u8.wrap ((t : Int) / 256)), .int .u8 (IntKind.u8.wrap (t : Int)), .int .u8 (IntKind.u8.wrap ((c : Int) / 256)), .int .u8 (IntKind.u8.wrap (c : Int))] 5)).drew).alloc o).cell? ⟨w.heap.size, 2, none⟩ = some (.int .u8 (IntKind.u8.wrap ((c : Int) / 256))) := fun o => ((Blk.new w 5 #[.int .u8 (IntKind.u8.wrap ((t : Int) / 256)), .int .u8 (IntKind.u8.wrap (t : Int)), .int .u8 (IntKind.u8.wrap ((c : Int) / 256)), .int .u8 (IntKind.u8.wrap (c : Int))]).drew.alloc o).cell 2
  have f3 : ∀ o, (((w.alloc (.cells #[.int .u8 (IntKind.u8.wrap ((t : Int) / 256)), .int .u8 (IntKind.u8.wrap (t : Int)), .int .u8 (IntKind.u8.wrap ((c : Int) / 256)), .int .u8 (IntKind.u8.wrap (c : Int))] 5)).drew).alloc o).cell? ⟨w.heap.size, 3, none⟩ = some (.int .u8 (IntKind.u8.wrap (c : Int))) := fun o => ((Blk.new w 5 #[.int .u8 (IntKind.u8.wrap ((t : Int) / 256)), .int .u8 (IntKind.u8.wrap (t : Int)), .int .u8 (IntKind.u8.wrap ((c : Int) / 256)), .int .u8 (IntKind.u8.wrap (c : Int))]).drew.alloc o).cell 3
  go_enter Try.func40, Try.ntmps40
  go_wp2_with fail
  first
    | (go_region_with
    (first
      | (go_at_call 55
         refine (HLO.out _).mono ?_
         rintro e w1 ⟨rfl, T1⟩
         have y1 := fun b i (hb : b < _) => World.cell?_of_block (a := (⟨b, i, none⟩ : Addr)) (T1.block b hb (by simp))
         have y2 := fun o b i (hb : b < _) => (World.cell?_of_block (w := w1) (w' := w1.alloc o) (a := (⟨b, i, none⟩ : Addr)) (heap_old w1 o (Nat.lt_of_lt_of_le hb T1.size))).trans (y1 b i hb)
         try have y3 := fun i => World.cell?_of_block (a := (⟨w.heap.size, i, none⟩ : Addr)) (T1.block w.heap.size (by first | (simp; done) | (simp; omega)) (by simp))
         try have y4 := fun i => World.cell?_of_block (a := (⟨w.heap.size + 1, i, none⟩ : Addr)) (T1.block (w.heap.size + 1) (by first | (simp; done) | (simp; omega)) (by simp)))))
    | fail "region"
  all_goals
    as_aux_lemma =>
      go_wp2_with fail
      go_ret
      refine ⟨by rw [HK.out]; rfl, ?_⟩
      repeat' (first | exact Touch.refl _ _ | refine Touch.drew_ ?_ | refine Touch.alloc ?_ _ | refine Touch.trans ?_ T1 (by simp))
end Go.Proofs.Ytibbfihnhlgkeaa

/- The law's entry, small. -/
import Derived.Test.YtibbfihnhlgkeaaCacheA1
import Derived.Test.YtibbfihnhlgkeaaCacheS
namespace Go.Proofs.Ytibbfihnhlgkeaa
open Go.RowKit Go.Maps Go.WideMaps
open NM (Bs bs ofBs)
open CM (It C)

def entN (b : Nat) : ByteArray := ofBs [1, UInt8.ofNat b, 0]
def entR (b : Nat) : CM.R := ⟨entN b, 1, 1, 0, ⟨#[1, 2, 3, 4]⟩⟩
def entE (b : Nat) (til : Int) : CM.E := ⟨1, entN b, 1, 1, [entR b], til, 3, 0, 0⟩
set_option maxRecDepth 100000 in
theorem ent_names : ∀ b : Fin 256, NM.check [1, UInt8.ofNat b.val, 0] = 0 ∧ NM.same [1, UInt8.ofNat b.val, 0] [1, UInt8.ofNat b.val, 0] = true ∧ NM.rcheck [1, UInt8.ofNat b.val, 0] 1 [1, 2, 3, 4] = 0 := by decide +kernel
theorem ent_check (b : Nat) (hb : b < 256) (til rank src : Int) (ht : 0 ≤ til ∧ til ≤ 1125899906842624) (hr : 1 ≤ rank ∧ rank ≤ 4) : CM.check { entE b til with rank := rank, src := src } = 0 := by
  have h := ent_names ⟨b, hb⟩
  have hn : bs (entN b) = [1, UInt8.ofNat b, 0] := NM.bs_ofBs _
  refine check_good ?_ ?_ ?_
  · unfold CM.okHead
    simp only [entE, hn, decide_eq_true_eq]
    exact ⟨by omega, h.1, ht, hr, by omega⟩
  · unfold CM.okLen
    simp [entE]
  · intro r hr2
    simp only [entE, List.mem_cons, List.not_mem_nil, or_false] at hr2
    subst hr2
    unfold CM.okRec
    have hd : bs (entR b).data = [1, 2, 3, 4] := by rfl
    have hn2 : bs (entR b).name = [1, UInt8.ofNat b, 0] := hn
    simp only [entE, hn, hn2, hd]
    rw [show (entR b).type = 1 from rfl, show (entR b).cls = 1 from rfl, h.2.2, h.2.1]
    rfl
theorem ent_fits (b : Nat) (til rank src : Int) : EFits { entE b til with rank := rank, src := src } := by
  have hs : (entN b).size = 3 := by unfold entN; rw [NM.ofBs_size]; rfl
  refine ⟨by show (entN b).size ≤ _; omega, fun r hr => ?_⟩
  simp only [entE, List.mem_cons, List.not_mem_nil, or_false] at hr
  subst hr
  exact ⟨by show (entN b).size ≤ _; omega, by show (4 : Nat) ≤ _; omega⟩
set_option maxRecDepth 10000 in
set_option maxHeartbeats 1000000 in
theorem entry_any (w : World) (b : Nat) (hb : b < 256) (til : Int) :
    Calls Try.prog 18 #[.int .u8 (b : Int), .int .i64 til] w fun e w' => ∃ g, e = .returned (.agg (entV (entE b til) (.slice (some ⟨g, 0, none⟩) 1 1))) ∧ w.heap.size ≤ g ∧ Blk w' g 68 (recV (entR b)) ∧ Touch [] w w' := by
  have hone := conv_one b hb
  have hnm : (⟨#[1]⟩ : ByteArray) ++ ofBs [UInt8.ofNat b] ++ ⟨#[0]⟩ = entN b := NM.bs_inj (by unfold entN; rw [NM.bs_append, NM.bs_append, NM.bs_ofBs, NM.bs_ofBs]; rfl)
  have HNM := Lib.hid hnm
  have HB0 := Lib.hid (Blk.new w 25 zeroE)
  clear hnm
  have k1 : ∀ o, ((w.alloc o).alloc (.cells #[.int .u8 (b : Int)] 5)).cell? ⟨w.heap.size + 1, 0, none⟩ = some (.int .u8 (b : Int)) := fun o => (Blk.new' (w.alloc o) 5 #[.int .u8 (b : Int)] (g := w.heap.size + 1) (by simp)).cell 0
  go_enter Try.func18, Try.ntmps18
  go_upto_region 2 with (fail)
  rw [HNM.out]
  go_wp2_with fail
  refine bodyPost_ret (results_cell_row rfl _ _ w.heap.size 25 (entV (entE b til) (.slice (some ⟨w.heap.size + 1 + 1, 0, none⟩) 1 1)) (0, 0) _ rfl (((Blk.new w 25 _).alloc _).alloc _) Try.underlying25 rfl (by kernel_rfl)) rfl ?_
  exact ⟨w.heap.size + 1 + 1, rfl, by omega, Blk.new' _ 68 _ (by simp), (((Touch.refl [] w).alloc _).alloc _).alloc _⟩
theorem ent_recs {w : World} {g b : Nat} {til : Int} (h : Blk w g 68 (recV (entR b))) : w.ownsRow g 68 5 (.slice (some ⟨g, 0, none⟩) 1 1) (entE b til).recs.length (flat (entE b til).recs) := by
  refine ⟨by simp [entE, flat, recV], .inr ⟨g, 1, _, rfl, Nat.le_refl _, h, Nat.le_refl _, by unfold maxLen; omega, rfl, rfl⟩⟩
def smallR (r : CM.R) : CM.R := { r with name := r.name.extract 0 300, data := r.data.extract 0 100 }
def smallE (e : CM.E) : CM.E := { e with name := e.name.extract 0 300, recs := (e.recs.take 70).map smallR }
end Go.Proofs.Ytibbfihnhlgkeaa

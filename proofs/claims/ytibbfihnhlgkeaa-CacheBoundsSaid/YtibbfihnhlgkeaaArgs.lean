/- What an argument that reads as data looks like in memory: 'Rd w t cs': the cells cs read as a datum of type t. -/
import Derived.Test.YtibbfihnhlgkeaaMem
import Derived.Test.YtibbfihnhlgkeaaChecked
import Derived.ProofKit
import Derived.ChangeOld
import Derived.OpenShut
import Derived.Deep.Slices
namespace Go.Proofs.Ytibbfihnhlgkeaa
open Go.RowKit Go.ChangeShapes Go.WideShapes Go.ChangeAt

def Rd (w : World) (t : TypeId) (cs : List Value) : Prop :=
  ∃ (H : Type) (enc : TypeId × Value → H) (base : Nat) (spare : Nat → Bool) (held : Bool) (fuel : Nat) (x : DataW H × List MemPlace), DataW.trod enc Try.prog w base spare held fuel t cs = some x

section
variable {w : World} {t : TypeId} {cs : List Value}
theorem Rd.of_trod {H : Type} {enc : TypeId × Value → H} {base : Nat} {spare : Nat → Bool} {held : Bool} {v : Value} {d : DataW H} {ps : List MemPlace} (h : DataW.Trod enc Try.prog w base spare held t v d ps) : Rd w t v.cells.toList := by
  obtain ⟨fuel, hf⟩ := h
  exact ⟨H, enc, base, spare, held, fuel, _, hf⟩
theorem Rd.int {k : IntKind} (ht : Try.prog.underlying t = some (.int k)) (h : Rd w t cs) : ∃ n, cs = [.int k n] ∧ (Lit.int k n).wf = true := by
  obtain ⟨H, enc, base, spare, held, fuel, x, hf⟩ := h
  obtain ⟨n, h1, _, h2⟩ := DataW.trod_int ht hf
  exact ⟨n, h1, h2⟩
theorem Rd.string (ht : Try.prog.underlying t = some .string) (h : Rd w t cs) : ∃ s, cs = [.string s] ∧ s.size ≤ maxLen := by
  obtain ⟨H, enc, base, spare, held, fuel, x, hf⟩ := h
  cases fuel with
  | zero => simp [DataW.trod] at hf
  | succ n =>
    unfold DataW.trod at hf
    rw [ht] at hf
    split at hf <;> simp_all
theorem Rd.bool (ht : Try.prog.underlying t = some .bool) (h : Rd w t cs) : ∃ b, cs = [.bool b] := by
  obtain ⟨H, enc, base, spare, held, fuel, x, hf⟩ := h
  cases fuel with
  | zero => simp [DataW.trod] at hf
  | succ n =>
    unfold DataW.trod at hf
    rw [ht] at hf
    split at hf <;> simp_all
theorem Rd.struct {fs : Array Field} (ht : Try.prog.underlying t = some (.struct fs)) (h : Rd w t cs) :
    cs.length = Try.prog.cellsOf t ∧ ∀ (i : Nat) (f : Field), fs[i]? = some f → Rd w f.type ((cs.drop f.offset).take (Try.prog.cellsOf f.type)) := by
  obtain ⟨H, enc, base, spare, held, fuel, x, hf⟩ := h
  obtain ⟨xs, n, _, _, hl, hx, hh⟩ := DataW.trod_struct ht hf
  refine ⟨hl, fun i f hi => ?_⟩
  have h1 := hh i f hi
  have hi' : i < xs.length := by rw [hx]; exact (Array.getElem?_eq_some_iff.1 hi).1
  rw [List.getElem?_eq_getElem hi'] at h1
  exact ⟨H, enc, base, spare, held, n, _, h1⟩
theorem Rd.array {n : Nat} {e : TypeId} (ht : Try.prog.underlying t = some (.array n e)) (h : Rd w t cs) :
    cs.length = Try.prog.cellsOf t ∧ ∀ (i : Nat), i < n → Rd w e ((cs.drop (i * Try.prog.cellsOf e)).take (Try.prog.cellsOf e)) := by
  obtain ⟨H, enc, base, spare, held, fuel, x, hf⟩ := h
  obtain ⟨xs, m, _, _, hl, hx, hh⟩ := DataW.trod_array ht hf
  refine ⟨hl, fun i hi => ?_⟩
  have h1 := hh i hi
  rw [List.getElem?_eq_getElem (by omega)] at h1
  exact ⟨H, enc, base, spare, held, m, _, h1⟩
/-- a slice: nil, or elements each of which reads -/
theorem Rd.slice {e : TypeId} (ht : Try.prog.underlying t = some (.slice e)) (h : Rd w t cs) :
    ∃ (a : Option Addr) (len cap : Nat), cs = [.slice a len cap] ∧ len ≤ cap ∧ cap ≤ maxLen ∧ (a = none → cap = 0) ∧
      ∀ i, i < len → ∃ ad cs', a = some ad ∧ cs'.length = Try.prog.cellsOf e ∧ (∀ j, j < Try.prog.cellsOf e → w.cell? (ad.add (i * Try.prog.cellsOf e + j)) = cs'[j]?) ∧ Rd w e cs' := by
  obtain ⟨H, enc, base, spare, held, fuel, x, hf⟩ := h
  rcases Go.Deep.open_slice ht hf with ⟨h0, _⟩ | ⟨a, len, cap, m, n, D, Pl, hcs, hb, hl, hm, hmm, hx, hi⟩
  · exact ⟨none, 0, 0, h0, Nat.le_refl _, Nat.zero_le _, fun _ => rfl, fun i hi => absurd hi (Nat.not_lt_zero _)⟩
  · refine ⟨some a, len, cap, hcs, hl, hm, (fun h => by cases h), fun i hi' => ?_⟩
    have him : i < m := by rw [hmm]; split <;> omega
    obtain ⟨cs', hc, ht'⟩ := hi i him
    obtain ⟨_, hcl, hat⟩ := World.cells?_some hc
    refine ⟨a, cs', rfl, hcl, fun j hj => ?_, ⟨H, enc, base, spare, held, n, _, ht'⟩⟩
    rw [← Go.Deep.add_add, hat j hj]
theorem add_none (b o n : Nat) : (⟨b, o, none⟩ : Addr).add n = ⟨b, o + n, none⟩ := by
  unfold Addr.add; split
  · subst_vars; rfl
  · rfl
/-- .. with the address written out -/
theorem Rd.rows {e : TypeId} {a : Option Addr} {len cap m : Nat} (ht : Try.prog.underlying t = some (.slice e)) (hm : Try.prog.cellsOf e = m) (hpos : 0 < m) (h : Rd w t [.slice a len cap]) :
    len ≤ cap ∧ cap ≤ maxLen ∧ (a = none → cap = 0) ∧ (0 < len → ∃ blk off, a = some ⟨blk, off, none⟩) ∧
      ∀ i, i < len → ∃ blk off cs', a = some ⟨blk, off, none⟩ ∧ cs'.length = m ∧ (∀ j, j < m → w.cell? ⟨blk, off + (i * m + j), none⟩ = cs'[j]?) ∧ Rd w e cs' := by
  obtain ⟨a', len', cap', e1, hl, hc, hn, he⟩ := h.slice ht
  injection e1 with e1 _
  injection e1 with e1 e2 e3
  subst e1 e2 e3
  have hsp : 0 < len → ∃ blk off, a = some ⟨blk, off, none⟩ := by
    intro h0
    obtain ⟨ad, cs, rfl, hlen, hcell, _⟩ := he 0 h0
    rw [hm] at hlen hcell
    have h1 := hcell 0 hpos
    rw [List.getElem?_eq_getElem (by omega)] at h1
    have h2 := World.cell?_spot h1
    obtain ⟨blk, off, spot⟩ := ad
    have h3 : spot = none := by simpa [Addr.add] using h2
    exact ⟨blk, off, by rw [h3]⟩
  refine ⟨hl, hc, hn, hsp, fun i hi => ?_⟩
  obtain ⟨blk, off, hbo⟩ := hsp (by omega)
  obtain ⟨ad, cs, had, hlen, hcell, hrd⟩ := he i hi
  rw [hbo] at had
  cases had
  rw [hm] at hlen hcell
  exact ⟨blk, off, cs, hbo, hlen, fun j hj => by rw [← add_none]; exact hcell j hj, hrd⟩
set_option maxRecDepth 10000 in
theorem okWide_arr {r : Reach} {b0 : Nat} {v : Value} {n : Nat} {e : TypeId} (ht : Try.prog.underlying t = some (.array n e)) (h : Value.okWide Try.prog w r b0 t v) : ∃ cs, v = .agg cs ∧ cs.size = Try.prog.cellsOf t := by
  simp only [Value.okWide, ht] at h
  obtain ⟨cs, h1, h2, _⟩ := h
  exact ⟨cs, h1, h2⟩
end
theorem cell_lt {w : World} {a : Addr} {v : Value} (h : w.cell? a = some v) : a.block < w.heap.size := by
  unfold World.cell? at h
  split at h
  · exact lt_of_heap (by assumption)
  · cases h
theorem Touch.cell {S : List Nat} {w w' : World} {a : Addr} {v : Value} (h : Touch S w w') (hc : w.cell? a = some v) (hn : a.block ∉ S) : w'.cell? a = some v :=
  (World.cell?_of_block (h.block a.block (cell_lt hc) hn)).trans hc
theorem own_ : ownKnob Try.prog.godebug = none := by kernel_rfl
theorem laidOut_ : laidOutB Try.prog = true := by kernel_rfl
end Go.Proofs.Ytibbfihnhlgkeaa

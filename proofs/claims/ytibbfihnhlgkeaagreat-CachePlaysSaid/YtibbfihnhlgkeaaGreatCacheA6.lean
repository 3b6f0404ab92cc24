/- An entry that is handed in. -/
import Derived.Test.YtibbfihnhlgkeaaGreatCacheA5
namespace Go.Proofs.YtibbfihnhlgkeaaGreat
open Go.RowKit Go.Maps Go.WideMaps Go.ChangeShapes
open NM (Bs bs ofBs)
open CM (It C)

theorem u16_range {n : Int} (h : (Lit.int .u16 n).wf = true) : 0 ≤ n ∧ n ≤ 65535 := by
  simp only [Lit.wf, Bool.and_eq_true, decide_eq_true_eq] at h
  have h2 : IntKind.u16.max = 65535 := rfl
  have h3 : IntKind.u16.min = 0 := rfl
  omega
set_option maxRecDepth 10000 in
theorem Rd.rr {w : World} {cs : List Value} (hl : cs.length = 5) (h : Rd w 60 cs) : ∃ r : CM.R, cs = (recV r).toList ∧ r.name.size ≤ maxLen ∧ r.data.size ≤ maxLen := by
  have c2 : Tryz.prog.cellsOf 9 = 1 := by kernel_rfl
  have c3 : Tryz.prog.cellsOf 28 = 1 := by kernel_rfl
  have c4 : Tryz.prog.cellsOf 58 = 1 := by kernel_rfl
  obtain ⟨_, hf⟩ := h.struct Tryz.underlying60
  match cs, hl with
  | [x, y, z, u, v], _ =>
    have f0 : Rd w 9 (([x, y, z, u, v].drop 0).take (Tryz.prog.cellsOf 9)) := hf 0 _ rfl
    have f1 : Rd w 28 (([x, y, z, u, v].drop 1).take (Tryz.prog.cellsOf 28)) := hf 1 _ rfl
    have f2 : Rd w 28 (([x, y, z, u, v].drop 2).take (Tryz.prog.cellsOf 28)) := hf 2 _ rfl
    have f3 : Rd w 58 (([x, y, z, u, v].drop 3).take (Tryz.prog.cellsOf 58)) := hf 3 _ rfl
    have f4 : Rd w 9 (([x, y, z, u, v].drop 4).take (Tryz.prog.cellsOf 9)) := hf 4 _ rfl
    rw [c2] at f0 f4
    rw [c3] at f1 f2
    rw [c4] at f3
    obtain ⟨n, h0, s0⟩ := Rd.string Tryz.underlying9 f0
    obtain ⟨t, h1, _⟩ := Rd.int Tryz.underlying28 f1
    obtain ⟨c, h2, _⟩ := Rd.int Tryz.underlying28 f2
    obtain ⟨l, h3, _⟩ := Rd.int Tryz.underlying58 f3
    obtain ⟨d, h4, s4⟩ := Rd.string Tryz.underlying9 f4
    simp at h0 h1 h2 h3 h4
    subst h0 h1 h2 h3 h4
    exact ⟨⟨n, t, c, l, d⟩, rfl, s0, s4⟩
set_option maxRecDepth 10000 in
theorem Rd.recs {w : World} {a : Option Addr} {len cap : Nat} (h : Rd w 29 [.slice a len cap]) : ∃ l : List CM.R, l.length = len ∧ RecsAt w (.slice a len cap) l ∧ ∀ r ∈ l, r.name.size ≤ maxLen ∧ r.data.size ≤ maxLen := by
  obtain ⟨hl, hc, _, hsp, he⟩ := h.rows Tryz.underlying29 (m := 5) (by kernel_rfl) (by omega)
  have hex : ∀ i : Fin len, ∃ r : CM.R, (∃ blk off, a = some ⟨blk, off, none⟩ ∧ ∀ j, j < 5 → w.cell? ⟨blk, off + (i.val * 5 + j), none⟩ = (recV r)[j]?) ∧ r.name.size ≤ maxLen ∧ r.data.size ≤ maxLen := by
    intro i
    obtain ⟨blk, off, cs, h1, h2, h3, h4⟩ := he i.val i.isLt
    obtain ⟨r, rfl, h5, h6⟩ := Rd.rr h2 h4
    exact ⟨r, ⟨blk, off, h1, fun j hj => by rw [h3 j hj, Array.getElem?_toList]⟩, h5, h6⟩
  have hch := Classical.axiomOfChoice hex
  obtain ⟨f, hf⟩ := hch
  refine ⟨List.ofFn f, by simp, ⟨a, cap, by simp, by simpa using hl, hc, fun hpos => ?_⟩, fun r hr => ?_⟩
  · have hpos2 : 0 < len := by simpa using hpos
    obtain ⟨blk, off, hbo⟩ := hsp hpos2
    obtain ⟨⟨b0, o0, e0, k0⟩, _⟩ := hf ⟨0, hpos2⟩
    rw [hbo] at e0
    cases e0
    refine ⟨blk, off, hbo, ?_, fun i hi j hj => ?_⟩
    · have := k0 0 (by omega)
      rw [show (recV (f ⟨0, hpos2⟩))[0]? = some (.string (f ⟨0, hpos2⟩).name) from rfl] at this
      exact cell_lt this
    · have hi2 : i < len := by simpa using hi
      obtain ⟨⟨b1, o1, e1, k1⟩, _⟩ := hf ⟨i, hi2⟩
      rw [hbo] at e1
      cases e1
      rw [List.getElem_ofFn]
      exact k1 j hj
  · obtain ⟨i, rfl⟩ := List.mem_ofFn.1 hr
    exact (hf i).2
set_option maxRecDepth 10000 in
theorem Rd.ent {w : World} {cs : List Value} (hl : cs.length = 9) (h : Rd w 31 cs) : ∃ (e : CM.E) (rv : Value), cs = (entV e rv).toList ∧ ArgE w e rv := by
  have c1 : Tryz.prog.cellsOf 3 = 1 := by kernel_rfl
  have c2 : Tryz.prog.cellsOf 9 = 1 := by kernel_rfl
  have c3 : Tryz.prog.cellsOf 28 = 1 := by kernel_rfl
  have c4 : Tryz.prog.cellsOf 29 = 1 := by kernel_rfl
  obtain ⟨_, hf⟩ := h.struct Tryz.underlying31
  match cs, hl with
  | [x0, x1, x2, x3, x4, x5, x6, x7, x8], _ =>
    have f0 : Rd w 3 (([x0, x1, x2, x3, x4, x5, x6, x7, x8].drop 0).take (Tryz.prog.cellsOf 3)) := hf 0 _ rfl
    have f1 : Rd w 9 (([x0, x1, x2, x3, x4, x5, x6, x7, x8].drop 1).take (Tryz.prog.cellsOf 9)) := hf 1 _ rfl
    have f2 : Rd w 28 (([x0, x1, x2, x3, x4, x5, x6, x7, x8].drop 2).take (Tryz.prog.cellsOf 28)) := hf 2 _ rfl
    have f3 : Rd w 28 (([x0, x1, x2, x3, x4, x5, x6, x7, x8].drop 3).take (Tryz.prog.cellsOf 28)) := hf 3 _ rfl
    have f4 : Rd w 29 (([x0, x1, x2, x3, x4, x5, x6, x7, x8].drop 4).take (Tryz.prog.cellsOf 29)) := hf 4 _ rfl
    have f5 : Rd w 3 (([x0, x1, x2, x3, x4, x5, x6, x7, x8].drop 5).take (Tryz.prog.cellsOf 3)) := hf 5 _ rfl
    have f6 : Rd w 3 (([x0, x1, x2, x3, x4, x5, x6, x7, x8].drop 6).take (Tryz.prog.cellsOf 3)) := hf 6 _ rfl
    have f7 : Rd w 3 (([x0, x1, x2, x3, x4, x5, x6, x7, x8].drop 7).take (Tryz.prog.cellsOf 3)) := hf 7 _ rfl
    have f8 : Rd w 3 (([x0, x1, x2, x3, x4, x5, x6, x7, x8].drop 8).take (Tryz.prog.cellsOf 3)) := hf 8 _ rfl
    rw [c1] at f0 f5 f6 f7 f8
    rw [c2] at f1
    rw [c3] at f2 f3
    rw [c4] at f4
    obtain ⟨k, h0, _⟩ := Rd.int Tryz.underlying3 f0
    obtain ⟨n, h1, s1⟩ := Rd.string Tryz.underlying9 f1
    obtain ⟨t, h2, w2⟩ := Rd.int Tryz.underlying28 f2
    obtain ⟨c, h3, w3⟩ := Rd.int Tryz.underlying28 f3
    obtain ⟨a, len, cap, h4, _⟩ := Rd.slice Tryz.underlying29 f4
    obtain ⟨y5, h5, _⟩ := Rd.int Tryz.underlying3 f5
    obtain ⟨y6, h6, _⟩ := Rd.int Tryz.underlying3 f6
    obtain ⟨y7, h7, _⟩ := Rd.int Tryz.underlying3 f7
    obtain ⟨y8, h8, _⟩ := Rd.int Tryz.underlying3 f8
    simp at h0 h1 h2 h3 h4 h5 h6 h7 h8
    subst h0 h1 h2 h3 h4 h5 h6 h7 h8
    obtain ⟨l, hll, hr, hs⟩ := Rd.recs (w := w) (a := a) (len := len) (cap := cap) f4
    exact ⟨⟨k, n, t, c, l, y5, y6, y7, y8⟩, .slice a len cap, rfl, hr, s1, hs, u16_range w2, u16_range w3⟩
theorem Rd.entA {w : World} {cs : Array Value} (h : Rd w 31 cs.toList) : ∃ (e : CM.E) (rv : Value), cs = entV e rv ∧ ArgE w e rv := by
  have hl : cs.toList.length = 9 := (h.struct Tryz.underlying31).1.trans (by kernel_rfl)
  obtain ⟨e, rv, h1, h2⟩ := h.ent hl
  exact ⟨e, rv, Array.toList_inj.1 h1, h2⟩
theorem smallE_size (e : CM.E) : (smallE e).name.size ≤ 300 ∧ ∀ r ∈ (smallE e).recs, r.name.size ≤ 300 ∧ r.data.size ≤ 100 := by
  refine ⟨by show (e.name.extract 0 300).size ≤ 300; rw [ByteArray.size_extract]; omega, fun r hr => ?_⟩
  obtain ⟨q, _, rfl⟩ := List.mem_map.1 (show r ∈ (e.recs.take 70).map smallR from hr)
  exact ⟨by show (q.name.extract 0 300).size ≤ 300; rw [ByteArray.size_extract]; omega, by show (q.data.extract 0 100).size ≤ 100; rw [ByteArray.size_extract]; omega⟩
theorem smallE_fits (e : CM.E) : EFits (smallE e) := by
  obtain ⟨h1, h2⟩ := smallE_size e
  exact ⟨by omega, fun r hr => ⟨by have := (h2 r hr).1; omega, by have := (h2 r hr).2; omega⟩⟩
theorem smallE_len (e : CM.E) : (smallE e).recs.length ≤ 70 := by
  show ((e.recs.take 70).map smallR).length ≤ 70
  rw [List.length_map, List.length_take]
  omega
end Go.Proofs.YtibbfihnhlgkeaaGreat

/- law10: WalKeeps: words. -/
import Derived.Test.YtmglkhnojimnlaaWalAgain
import Derived.Laws.AppendOwnNone
namespace Go.Proofs.Ytmglkhnojimnlaa
open Go.RowKit Go.Maps

/-- what stands on the disk ahead of a crash, or behind one -/
def Behind (fl : DM.FL) (l : List WM.Bs) (firm : Nat) : Prop := LM.Inv fl l firm ∨ ∃ j, firm ≤ j ∧ j ≤ l.length ∧ LM.Torn fl (l.take j)
theorem Behind.crash {fl : DM.FL} {l : List WM.Bs} {firm : Nat} (h : Behind fl l firm) (ps : List Int) : ∃ j, firm ≤ j ∧ j ≤ l.length ∧ LM.Torn (DM.crashL fl ps) (l.take j) := by
  rcases h with h | ⟨j, h1, h2, h3⟩
  · exact h.crash ps
  · exact ⟨j, h1, h2, h3.crash ps⟩
theorem prefix_take (l : List WM.Bs) (j firm : Nat) (h1 : firm ≤ j) (h2 : j ≤ l.length) : prefixB ((l.take j).map ofBs) (l.map ofBs) (firm : Int) = true := by
  unfold prefixB
  have hl : ((l.take j).map ofBs).length = j := by rw [List.length_map, List.length_take]; omega
  refine decide_eq_true ⟨by rw [hl, List.length_map]; exact h2, by rw [hl]; omega, ?_⟩
  rw [hl, List.map_take]
/-- a log of the call's own, and the texts of its records -/
structure KS (w wx : World) (g b n u : Nat) (x : LM.L) (a : Option Addr) (c : Nat) : Prop where
  own : OwnW w wx g b n x
  inv : LM.InvL x
  good : DM.Good x.d u
  txt : TextsB wx a (x.l.map ofBs)
  cap : x.l.length ≤ c ∧ (a = none → c = 0)
  max : c ≤ maxLen
  small : (WM.all x.l).length ≤ u
theorem KS.len {w wx : World} {g b n u : Nat} {x : LM.L} {a : Option Addr} {c : Nat} (h : KS w wx g b n u x a c) : x.l.length ≤ u := by
  have := lens_le x.l; have := h.small; omega
theorem KS.touch {w wx wy : World} {g b n u : Nat} {x : LM.L} {a : Option Addr} {c : Nat} (h : KS w wx g b n u x a c) (T : Touch [] wx wy) : KS w wy g b n u x a c :=
  ⟨h.own.touch T, h.inv, h.good, h.txt.touch T, h.cap, h.max, h.small⟩
theorem KS.mono {w wx : World} {g b n m u v : Nat} {x : LM.L} {a : Option Addr} {c : Nat} (h : KS w wx g b n u x a c) (hm : n ≤ m) (hv : u ≤ v) : KS w wx g b m v x a c :=
  ⟨h.own.mono hm, h.inv, h.good.mono hv, h.txt, h.cap, h.max, Nat.le_trans h.small hv⟩
theorem KS.armed {w wx wy : World} {g b n u : Nat} {x : LM.L} {a : Option Addr} {c : Nat} (h : KS w wx g b n u x a c) (k : Int) (ho : OwnW w wy g b n { x with d := DM.arm x.d k }) (hk : KeepBut walTs wx wy) : KS w wy g b n u { x with d := DM.arm x.d k } a c :=
  ⟨ho, h.inv, h.good.same rfl, h.txt.keep hk (by decide), h.cap, h.max, h.small⟩
theorem LM.sync_facts (x : LM.L) (hb : x.broken = false) : (LM.sync x).2.l = x.l ∧ ((LM.sync x).1 = 0 → (LM.sync x).2.firm = x.l.length ∧ (LM.sync x).2.broken = false) ∧ ((LM.sync x).1 ≠ 0 → (LM.sync x).2.firm = x.firm) := by
  unfold LM.sync
  rw [if_neg (by simp [hb])]
  by_cases h : x.firm = x.l.length
  · rw [if_pos h]; exact ⟨rfl, fun _ => ⟨h, hb⟩, fun h => absurd rfl h⟩
  · rw [if_neg h]
    obtain ⟨r, hr⟩ : ∃ r, r = LM.said x (DM.sync x.d LM.walN) := ⟨_, rfl⟩
    have hl : r.2.l = x.l ∧ r.2.firm = x.firm ∧ (r.1 = 0 → r.2.broken = false) := by rw [hr]; exact ⟨rfl, rfl, fun h => by simp only [LM.said] at h ⊢; simp [h, hb]⟩
    simp only [← hr]
    by_cases h0 : r.1 = 0
    · rw [if_pos h0]; exact ⟨hl.1, fun _ => ⟨rfl, hl.2.2 h0⟩, fun h => absurd rfl h⟩
    · rw [if_neg h0]; exact ⟨hl.1, fun h => absurd h h0, fun _ => hl.2.1⟩
theorem LM.append_facts (x : LM.L) (m : List WM.Bs) (hb : x.broken = false) : (LM.append x m).2.firm = x.firm ∧ ((LM.append x m).1 = 0 → (LM.append x m).2.l = x.l ++ m ∧ (LM.append x m).2.broken = false) ∧ ((LM.append x m).1 ≠ 0 → (LM.append x m).2.l = x.l) := by
  unfold LM.append
  rw [if_neg (by simp [hb])]
  by_cases h : m = []
  · rw [if_pos h]; subst h; exact ⟨rfl, fun _ => ⟨by simp, hb⟩, fun h => absurd rfl h⟩
  · rw [if_neg h]
    obtain ⟨r, hr⟩ : ∃ r, r = LM.said x (DM.append x.d LM.walN (ofBs (WM.all m))) := ⟨_, rfl⟩
    have hl : r.2.l = x.l ∧ r.2.firm = x.firm ∧ (r.1 = 0 → r.2.broken = false) := by rw [hr]; exact ⟨rfl, rfl, fun h => by simp only [LM.said] at h ⊢; simp [h, hb]⟩
    simp only [← hr]
    by_cases h0 : r.1 = 0
    · rw [if_pos h0]; exact ⟨hl.2.1, fun _ => ⟨rfl, hl.2.2 h0⟩, fun h => absurd rfl h⟩
    · rw [if_neg h0]; exact ⟨hl.2.1, fun h => absurd h h0, fun _ => hl.1⟩
theorem LM.rewrite_facts (x : LM.L) (m : List WM.Bs) (hb : x.broken = false) : ((LM.rewrite x m).1 = 0 → (LM.rewrite x m).2.l = m ∧ (LM.rewrite x m).2.firm = m.length ∧ (LM.rewrite x m).2.broken = false) ∧ ((LM.rewrite x m).1 ≠ 0 → (LM.rewrite x m).2.l = x.l ∧ (LM.rewrite x m).2.firm = x.firm) := by
  unfold LM.rewrite
  rw [if_neg (by simp [hb])]
  obtain ⟨r, hr⟩ : ∃ r, r = LM.said x (LM.rewriteD x.d m) := ⟨_, rfl⟩
  have hl : r.2.l = x.l ∧ r.2.firm = x.firm ∧ (r.1 = 0 → r.2.broken = false) := by rw [hr]; exact ⟨rfl, rfl, fun h => by simp only [LM.said] at h ⊢; simp [h, hb]⟩
  simp only [← hr]
  by_cases h0 : r.1 = 0
  · rw [if_pos h0]; exact ⟨fun _ => ⟨rfl, rfl, hl.2.2 h0⟩, fun h => absurd rfl h⟩
  · rw [if_neg h0]; exact ⟨fun h => absurd h h0, fun _ => ⟨hl.1, hl.2.1⟩⟩
/-- behind an operation -/
def KA (w wx : World) (g b n u O : Nat) (ocs : Array Value) (s8 s9 s13 s14 s16 : Value) : Prop :=
  ∃ (x : LM.L) (al : Option Addr) (c : Nat) (na : Option Addr) (nc : Nat) (nx : List ByteArray) (rw_ : Bool) (f : Int), s8 = .slice al x.l.length c ∧ s9 = .int .i64 (x.firm : Int) ∧ s13 = .slice na nx.length nc ∧ s14 = .bool rw_ ∧ s16 = .int .i64 f ∧
    KS w wx g b n u x al c ∧ (f = 0 → x.broken = false) ∧ TextsB wx na nx ∧ nx.length ≤ nc ∧ nc ≤ maxLen ∧ nx.length ≤ 1000000 ∧ Blk wx O 44 ocs
section
variable {w wx wy : World} {g b n u O : Nat} {ocs : Array Value} {x : LM.L} {al a6 : Option Addr} {c c6 : Nat} {xA : List ByteArray}
theorem KS.sync (h : KS w wx g b n u x al c) (hb : x.broken = false) (hO : Blk wx O 44 ocs) (he : OwnW w wy g b (n + 2) (LM.sync x).2) (hk : KeepBut walTs wx wy) (hu : u ≤ 1000000) :
    ((LM.sync x).1 = 0 → KA w wy g b (n + 8) (u + 1664) O ocs (.slice al x.l.length c) (.int .i64 (x.l.length : Int)) (.slice al x.l.length c) (.bool false) (.int .i64 0)) ∧
    ((LM.sync x).1 ≠ 0 → KA w wy g b (n + 8) (u + 1664) O ocs (.slice al x.l.length c) (.int .i64 (x.firm : Int)) (.slice al x.l.length c) (.bool false) (.int .i64 (LM.sync x).1)) := by
  obtain ⟨q1, q2, q3⟩ := LM.sync_facts x hb
  have hks : KS w wy g b (n + 2) u (LM.sync x).2 al c := ⟨he, h.inv.sync h.good.sorted, LM.sync_good h.good, by rw [q1]; exact h.txt.keep hk (by decide), by rw [q1]; exact h.cap, h.max, by rw [q1]; exact h.small⟩
  have ht := h.txt.keep hk (by decide)
  have hl := h.len
  have hO' := hk _ _ _ hO (by decide)
  exact ⟨fun h0 => ⟨_, al, c, al, c, x.l.map ofBs, false, 0, by rw [q1], by rw [(q2 h0).1], by rw [List.length_map], rfl, rfl, hks.mono (by omega) (by omega), fun _ => (q2 h0).2, ht, by rw [List.length_map]; exact h.cap.1, h.max, by rw [List.length_map]; omega, hO'⟩,
    fun h0 => ⟨_, al, c, al, c, x.l.map ofBs, false, (LM.sync x).1, by rw [q1], by rw [q3 h0], by rw [List.length_map], rfl, rfl, hks.mono (by omega) (by omega), fun h => absurd h h0, ht, by rw [List.length_map]; exact h.cap.1, h.max, by rw [List.length_map]; omega, hO'⟩⟩
theorem KS.rewrite (h : KS w wx g b n u x al c) (hb : x.broken = false) (hO : Blk wx O 44 ocs) (hT : TextsB wx a6 xA) (hc : (xA.length ≤ c6 ∧ (a6 = none → c6 = 0)) ∧ c6 ≤ maxLen) (hf : WM.Fits (xA.map bs)) (hz : (WM.all (xA.map bs)).length ≤ 1664) (h8 : xA.length ≤ 8)
    (he : OwnW w wy g b (n + 8) (LM.rewrite x (xA.map bs)).2) (hk : KeepBut walTs wx wy) :
    ((LM.rewrite x (xA.map bs)).1 = 0 → KA w wy g b (n + 8) (u + 1664) O ocs (.slice a6 xA.length c6) (.int .i64 (xA.length : Int)) (.slice a6 xA.length c6) (.bool true) (.int .i64 0)) ∧
    ((LM.rewrite x (xA.map bs)).1 ≠ 0 → KA w wy g b (n + 8) (u + 1664) O ocs (.slice al x.l.length c) (.int .i64 (x.firm : Int)) (.slice a6 xA.length c6) (.bool true) (.int .i64 (LM.rewrite x (xA.map bs)).1)) := by
  obtain ⟨q1, q2⟩ := LM.rewrite_facts x (xA.map bs) hb
  have hinv := h.inv.rewrite h.good.sorted _ hf
  have hgood := (LM.rewrite_good h.good (xA.map bs)).mono (show u + (WM.all (xA.map bs)).length ≤ u + 1664 by omega)
  have ht := hT.keep hk (by decide)
  have ht2 := h.txt.keep hk (by decide)
  have hO' := hk _ _ _ hO (by decide)
  refine ⟨fun h0 => ?_, fun h0 => ?_⟩
  · obtain ⟨e1, e2, e3⟩ := q1 h0
    refine ⟨_, a6, c6, a6, c6, xA, true, 0, by rw [e1, List.length_map], by rw [e2, List.length_map], rfl, rfl, rfl, ⟨he, hinv, hgood, by rw [e1, map_ofBs_bs]; exact ht, by rw [e1, List.length_map]; exact hc.1, hc.2, by rw [e1]; omega⟩, fun _ => e3, ht, hc.1.1, hc.2, by omega, hO'⟩
  · obtain ⟨e1, e2⟩ := q2 h0
    exact ⟨_, al, c, a6, c6, xA, true, _, by rw [e1], by rw [e2], rfl, rfl, rfl, ⟨he, hinv, hgood, by rw [e1]; exact ht2, by rw [e1]; exact h.cap, h.max, by rw [e1]; have := h.small; omega⟩, fun h => absurd h h0, ht, hc.1.1, hc.2, by omega, hO'⟩
theorem KS.append {na : Option Addr} {nc : Nat} (h : KS w wx g b n u x al c) (hb : x.broken = false) (hO : Blk wx O 44 ocs) (hT : TextsB wx na (x.l.map ofBs ++ xA)) (hnc : ((x.l.map ofBs ++ xA).length ≤ nc ∧ (na = none → nc = 0)) ∧ nc ≤ maxLen) (hf : WM.Fits (xA.map bs)) (hz : (WM.all (xA.map bs)).length ≤ 1664) (h8 : xA.length ≤ 8) (hu : u ≤ 900000)
    (he : OwnW w wy g b (n + 2) (LM.append x (xA.map bs)).2) (hk : KeepBut walTs wx wy) :
    ((LM.append x (xA.map bs)).1 = 0 → KA w wy g b (n + 8) (u + 1664) O ocs (.slice na (x.l.length + xA.length) nc) (.int .i64 (x.firm : Int)) (.slice na (x.l.length + xA.length) nc) (.bool false) (.int .i64 0)) ∧
    ((LM.append x (xA.map bs)).1 ≠ 0 → KA w wy g b (n + 8) (u + 1664) O ocs (.slice al x.l.length c) (.int .i64 (x.firm : Int)) (.slice na (x.l.length + xA.length) nc) (.bool false) (.int .i64 (LM.append x (xA.map bs)).1)) := by
  obtain ⟨q0, q1, q2⟩ := LM.append_facts x (xA.map bs) hb
  have hinv := h.inv.append h.good.sorted _ hf
  have hgood := (LM.append_good h.good (xA.map bs)).mono (show u + (WM.all (xA.map bs)).length ≤ u + 1664 by omega)
  have ht := hT.keep hk (by decide)
  have ht2 := h.txt.keep hk (by decide)
  have hO' := hk _ _ _ hO (by decide)
  have hlen := h.len
  have hl : (x.l.map ofBs ++ xA).length = x.l.length + xA.length := by rw [List.length_append, List.length_map]
  refine ⟨fun h0 => ?_, fun h0 => ?_⟩
  · obtain ⟨e1, e3⟩ := q1 h0
    have e2 : (LM.append x (xA.map bs)).2.l.length = x.l.length + xA.length := by rw [e1, List.length_append, List.length_map]
    have e4 : (LM.append x (xA.map bs)).2.l.map ofBs = x.l.map ofBs ++ xA := by rw [e1, List.map_append, map_ofBs_bs]
    refine ⟨_, na, nc, na, nc, x.l.map ofBs ++ xA, false, 0, by rw [e2], by rw [q0], by rw [hl], rfl, rfl, ⟨he.mono (by omega), hinv, hgood, by rw [e4]; exact ht, by rw [e2, ← hl]; exact hnc.1, hnc.2, ?_⟩, fun _ => e3, ht, hnc.1.1, hnc.2, by rw [hl]; omega, hO'⟩
    rw [e1, WM.all_append, List.length_append]
    have := h.small; omega
  · have e1 := q2 h0
    exact ⟨_, al, c, na, nc, x.l.map ofBs ++ xA, false, _, by rw [e1], by rw [q0], by rw [hl], rfl, rfl, ⟨he.mono (by omega), hinv, hgood, by rw [e1]; exact ht2, by rw [e1]; exact h.cap, h.max, by rw [e1]; have := h.small; omega⟩, fun h => absurd h h0, ht, hnc.1.1, hnc.2, by rw [hl]; omega, hO'⟩
end
/-- the script -/
def KOpsAt (w : World) (a : Option Addr) (len : Nat) : Prop :=
  ∀ i, i < len → ∃ (blk off : Nat) (kd N : Int) (la pa : Option Addr) (lc pl pc : Nat) (ss : List ByteArray) (ps : List Int), a = some ⟨blk, off, none⟩ ∧
    w.cell? ⟨blk, off + i * 4, none⟩ = some (.int .i64 kd) ∧ w.cell? ⟨blk, off + i * 4 + 1, none⟩ = some (.int .i64 N) ∧ w.cell? ⟨blk, off + i * 4 + 2, none⟩ = some (.slice la ss.length lc) ∧
    w.cell? ⟨blk, off + i * 4 + 3, none⟩ = some (.slice pa pl pc) ∧ (Lit.int .i64 kd).wf = true ∧ (Lit.int .i64 N).wf = true ∧ ss.length ≤ maxLen ∧ Texts w la ss ∧ (∀ s ∈ ss, s.size ≤ maxLen) ∧ pl ≤ maxLen ∧ Picks w (.slice pa pl pc) ps
set_option maxRecDepth 10000 in
theorem Rd.kops {w : World} {a : Option Addr} {len cap : Nat} (h : Rd w 37 [.slice a len cap]) : len ≤ cap ∧ cap ≤ maxLen ∧ KOpsAt w a len := by
  obtain ⟨hl, hc, _, hs, he⟩ := h.rows Try.underlying37 (m := 4) (by kernel_rfl) (by omega)
  refine ⟨hl, hc, fun i hi => ?_⟩
  obtain ⟨blk, off, cs, ha, hcl, hcell, hrd⟩ := he i hi
  have c1 : Try.prog.cellsOf 3 = 1 := by kernel_rfl
  have c2 : Try.prog.cellsOf 27 = 1 := by kernel_rfl
  have c3 : Try.prog.cellsOf 34 = 1 := by kernel_rfl
  obtain ⟨_, hf⟩ := hrd.struct Try.underlying44
  match cs, hcl with
  | [x, y, z, u], _ =>
    have f0 : Rd w 3 (([x, y, z, u].drop 0).take (Try.prog.cellsOf 3)) := hf 0 _ rfl
    have f1 : Rd w 3 (([x, y, z, u].drop 1).take (Try.prog.cellsOf 3)) := hf 1 _ rfl
    have f2 : Rd w 27 (([x, y, z, u].drop 2).take (Try.prog.cellsOf 27)) := hf 2 _ rfl
    have f3 : Rd w 34 (([x, y, z, u].drop 3).take (Try.prog.cellsOf 34)) := hf 3 _ rfl
    rw [c1] at f0 f1
    rw [c2] at f2
    rw [c3] at f3
    obtain ⟨kd, h0, w0⟩ := Rd.int Try.underlying3 f0
    obtain ⟨N, h1, w1⟩ := Rd.int Try.underlying3 f1
    obtain ⟨la, ll, lc, h2, _⟩ := Rd.slice Try.underlying27 f2
    obtain ⟨pa, pl, pc, h3, hp1, hp2, _⟩ := Rd.slice Try.underlying34 f3
    simp at h0 h1 h2 h3
    subst h0 h1 h2 h3
    obtain ⟨ss, rfl, hs1, hs2, hs3, hs4⟩ := texts_in (w := w) (a := la) (len := ll) (cap := lc) f2
    obtain ⟨ps, hp⟩ := Rd.picks (w := w) (a := pa) (len := pl) (cap := pc) f3
    exact ⟨blk, off, kd, N, la, pa, lc, pl, pc, ss, ps, ha, hcell 0 (by omega), hcell 1 (by omega), hcell 2 (by omega), hcell 3 (by omega), w0, w1, by omega, hs3, hs4, by omega, hp⟩
theorem KOpsAt.touch {w w' : World} {a : Option Addr} {len : Nat} (h : KOpsAt w a len) (ht : Touch [] w w') : ∀ i, i < len → ∃ (blk off : Nat) (kd N : Int) (la pa : Option Addr) (lc pl pc : Nat) (ss : List ByteArray) (ps : List Int), a = some ⟨blk, off, none⟩ ∧
    w'.cell? ⟨blk, off + i * 4, none⟩ = some (.int .i64 kd) ∧ w'.cell? ⟨blk, off + i * 4 + 1, none⟩ = some (.int .i64 N) ∧ w'.cell? ⟨blk, off + i * 4 + 2, none⟩ = some (.slice la ss.length lc) ∧
    w'.cell? ⟨blk, off + i * 4 + 3, none⟩ = some (.slice pa pl pc) ∧ (Lit.int .i64 kd).wf = true ∧ (Lit.int .i64 N).wf = true ∧ ss.length ≤ maxLen ∧ Texts w' la ss ∧ (∀ s ∈ ss, s.size ≤ maxLen) ∧ pl ≤ maxLen ∧ Picks w (.slice pa pl pc) ps := fun i hi => by
  obtain ⟨blk, off, kd, N, la, pa, lc, pl, pc, ss, ps, e, h0, h1, h2, h3, h4, h5, h6, h7, h8, h9, h10⟩ := h i hi
  exact ⟨blk, off, kd, N, la, pa, lc, pl, pc, ss, ps, e, ht.cell h0 (by simp), ht.cell h1 (by simp), ht.cell h2 (by simp), ht.cell h3 (by simp), h4, h5, h6, h7.touch ht, h8, h9, h10⟩
theorem ownsRow_shape' {w : World} {B size n : Nat} {e : TypeId} {v : Value} {xs : List Value} (h : w.ownsRow B e size v n xs) : ∃ a c, v = .slice a n c := by
  rcases h.2 with ⟨rfl, rfl⟩ | ⟨g, cap, cur, rfl, _⟩
  · exact ⟨_, _, rfl⟩
  · exact ⟨_, _, rfl⟩
set_option maxRecDepth 10000 in
/-- a row of texts put behind one of the call's own -/
theorem app_str {w : World} {ops : Array Oper} {rest : List Oper} {o : Oper} {a : Act} {Q : Exit → Act → World → Prop} (hgd : o.guard = none) (s x : Operand)
    (ho : o.op = .call { callee := .builtin .append, args := #[s, x], argTypes := #[27, 27] })
    (B : Nat) (v : Value) (m : List ByteArray) (k : Nat) (hk : m.length = k) (hs : a.eval s = v) (hown : w.ownsRow B 9 1 v k (m.map .string))
    (ao : Option Addr) (l : List ByteArray) (n c : Nat) (hn : l.length = n) (hx : a.eval x = .slice ao n c) (hnone : ao = none → n = 0 ∧ c = 0)
    (hcells : Texts w ao l) (hlen : k + n ≤ 1099511627776) (hB : B ≤ w.heap.size)
    (h : ∀ v' w', StrRow w' B v' (m ++ l) → Touch v.ownBlock.toList w w' → wpList Try.prog ops Q rest (a.put o.dst v') w') : wpList Try.prog ops Q (o :: rest) a w := by
  obtain ⟨i0, hi, hz0, hz1, hz2⟩ := info_parts infoStr
  have hend : ∀ v' w', w'.ownsRow B 9 1 v' (k + n) (m.map .string ++ l.map .string) → StrRow w' B v' (m ++ l) := fun v' w' h => by
    unfold StrRow
    rw [List.map_append, List.length_append, hk, hn]
    exact h
  cases ao with
  | none =>
    obtain ⟨rfl, rfl⟩ := hnone rfl
    obtain rfl := List.length_eq_zero_iff.1 hn
    refine wpList_append_own_none hgd s x _ ho B _ i0 1 Try.underlying27 hi v k (m.map .string) hs hown hx ?_
    exact h v w (hend v w (by simpa using hown)) (Touch.refl _ _)
  | some ad =>
    refine wpList_append_own _ hgd s x _ ho B _ i0 _ 1 16 Try.underlying27 hi hz0 hz1 hz2 rfl (by decide) v k (m.map .string) hs hown ad n c (l.map .string) hx (by simp [hn]) ?_ (by simp [Value.oneCell']) (by unfold maxLen; omega) (by omega) hB ?_
    · intro j u hj
      rw [List.getElem?_map] at hj
      cases hlj : l[j]? with
      | none => rw [hlj] at hj; cases hj
      | some t =>
        rw [hlj] at hj
        cases hj
        have hjl := (List.getElem?_eq_some_iff.1 hlj).1
        obtain ⟨blk, off, e, hc⟩ := hcells j hjl
        cases e
        rw [add_none, hc]
        congr 2
        rw [List.getElem?_eq_getElem hjl] at hlj
        exact Option.some.inj hlj
    · intro v' w' h1 h2 _
      exact h v' w' (hend v' w' h1) (Touch.of_grown h2)
theorem oarmD {w0 w : World} {b n : Nat} {d : DM.D} (h : Own w0 w b n d) (k : Int) :
    Calls Try.prog 19 #[.pointer (some ⟨b, 0, none⟩), .int .i64 k] w fun e w' => e = .returned (.tuple #[]) ∧ Own w0 w' b n (DM.arm d k) ∧ KeepBut walTs w w' := by
  obtain ⟨S, hd, hN, T⟩ := h.keepF
  refine (darm hd k).mono ?_
  rintro e w' ⟨rfl, h1, h2⟩
  exact ⟨rfl, h1.own hN (hN.touch T h2), KeepBut.of (hd.foot.mono (by simp)) h2⟩
/-- between the crashes -/
structure KC (w wx : World) (b n u O : Nat) (ocs : Array Value) (d : DM.D) (l : List WM.Bs) (fm : Nat) (al : Option Addr) (c : Nat) (na : Option Addr) (nx : List ByteArray) : Prop where
  own : Own w wx b n d
  good : DM.Good d u
  behind : Behind d.fl l fm
  le : fm ≤ l.length
  txt : TextsB wx al (l.map ofBs)
  cap : l.length ≤ c ∧ (al = none → c = 0)
  max : c ≤ maxLen
  small : (WM.all l).length ≤ u
  nxt : TextsB wx na nx
  ops : Blk wx O 44 ocs
/-- .. and behind one -/
structure KD (w wx : World) (b n u O : Nat) (ocs : Array Value) (d : DM.D) (l : List WM.Bs) (fm j : Nat) (al : Option Addr) (c : Nat) (na : Option Addr) (nx : List ByteArray) : Prop where
  own : Own w wx b n d
  good : DM.Good d u
  le1 : fm ≤ j
  le2 : j ≤ l.length
  torn : LM.Torn d.fl (l.take j)
  off : d.off = false
  txt : TextsB wx al (l.map ofBs)
  cap : l.length ≤ c ∧ (al = none → c = 0)
  max : c ≤ maxLen
  small : (WM.all l).length ≤ u
  nxt : TextsB wx na nx
  ops : Blk wx O 44 ocs
theorem KC.crash {w wx wy : World} {b n u O : Nat} {ocs : Array Value} {d : DM.D} {l : List WM.Bs} {fm : Nat} {al : Option Addr} {c : Nat} {na : Option Addr} {nx : List ByteArray} (h : KC w wx b n u O ocs d l fm al c na nx) {ps : List Int} (ho : Own w wy b n (DM.crash d ps)) (hk : KeepBut walTs wx wy) :
    ∃ j, KD w wy b n u O ocs (DM.crash d ps) l fm j al c na nx := by
  obtain ⟨j, h1, h2, h3⟩ := h.behind.crash ps
  exact ⟨j, ho, h.good.crash ps, h1, h2, h3, rfl, h.txt.keep hk (by decide), h.cap, h.max, h.small, h.nxt.keep hk (by decide), hk _ _ _ h.ops (by decide)⟩
theorem KD.armed {w wx wy : World} {b n u O : Nat} {ocs : Array Value} {d : DM.D} {l : List WM.Bs} {fm j : Nat} {al : Option Addr} {c : Nat} {na : Option Addr} {nx : List ByteArray} (h : KD w wx b n u O ocs d l fm j al c na nx) {k : Int} (ho : Own w wy b n (DM.arm d k)) (hk : KeepBut walTs wx wy) :
    KD w wy b n u O ocs (DM.arm d k) l fm j al c na nx :=
  ⟨ho, h.good.same rfl, h.le1, h.le2, h.torn, h.off, h.txt.keep hk (by decide), h.cap, h.max, h.small, h.nxt.keep hk (by decide), hk _ _ _ h.ops (by decide)⟩
theorem KD.touch {w wx wy : World} {b n u O : Nat} {ocs : Array Value} {d : DM.D} {l : List WM.Bs} {fm j : Nat} {al : Option Addr} {c : Nat} {na : Option Addr} {nx : List ByteArray} (h : KD w wx b n u O ocs d l fm j al c na nx) (T : Touch [] wx wy) : KD w wy b n u O ocs d l fm j al c na nx :=
  ⟨h.own.touch T, h.good, h.le1, h.le2, h.torn, h.off, h.txt.touch T, h.cap, h.max, h.small, h.nxt.touch T, T.blk h.ops (by simp)⟩
/-- opened in vain -/
theorem KD.bad {w wx wy : World} {b n u O : Nat} {ocs : Array Value} {d : DM.D} {l : List WM.Bs} {fm j : Nat} {al : Option Addr} {c : Nat} {na : Option Addr} {nx : List ByteArray} (h : KD w wx b n u O ocs d l fm j al c na nx) (ho : Own w wy b (n + 6) (LM.opened d).1.2) (hk : KeepBut walTs wx wy) :
    KC w wy b (n + 6) u O ocs (LM.opened d).1.2 l fm al c na nx :=
  ⟨ho, LM.opened_good h.good, .inr ⟨j, h.le1, h.le2, (LM.opened_ends d _ h.torn h.good.sorted h.off).torn⟩, by have := h.le1; have := h.le2; omega, h.txt.keep hk (by decide), h.cap, h.max, h.small, h.nxt.keep hk (by decide), hk _ _ _ h.ops (by decide)⟩
/-- opened, and crashed once more -/
theorem KD.done {w wx wy wz : World} {b n u O : Nat} {ocs : Array Value} {d : DM.D} {l : List WM.Bs} {fm j : Nat} {al : Option Addr} {c : Nat} {na : Option Addr} {nx : List ByteArray} (h : KD w wx b n u O ocs d l fm j al c na nx) (hz : (LM.opened d).1.1 = 0) {am : Option Addr} {cm : Nat} (hT : TextsB wy am ((l.take j).map ofBs)) (hc : (l.take j).length ≤ cm ∧ (am = none → cm = 0)) (hm : cm ≤ maxLen) (hk : KeepBut walTs wx wy)
    (ho : Own w wz b (n + 6) (DM.crash (LM.opened d).1.2 [])) (hk2 : KeepBut walTs wy wz) :
    KC w wz b (n + 6) u O ocs (DM.crash (LM.opened d).1.2 []) (l.take j) (l.take j).length am cm na nx ∧ LM.Torn (DM.crash (LM.opened d).1.2 []).fl (l.take j) := by
  have hop := LM.opened_ends d _ h.torn h.good.sorted h.off
  obtain ⟨_, hinv, _⟩ := hop.good hz
  have htn : LM.Torn (DM.crash (LM.opened d).1.2 []).fl (l.take j) := by
    obtain ⟨i, h1, h2, h3⟩ := LM.Inv.crash hinv []
    obtain rfl : i = (l.take j).length := by omega
    rwa [List.take_length] at h3
  have hsm : (WM.all (l.take j)).length ≤ u := by
    have h1 := WM.all_take_mono l h.le2
    rw [List.take_length] at h1
    have := h.small; omega
  exact ⟨⟨ho, (LM.opened_good h.good).crash [], .inr ⟨_, Nat.le_refl _, Nat.le_refl _, by rw [List.take_length]; exact htn⟩, Nat.le_refl _, hT.keep hk2 (by decide), hc, hm, hsm, (h.nxt.keep hk (by decide)).keep hk2 (by decide), hk2 _ _ _ (hk _ _ _ h.ops (by decide)) (by decide)⟩, htn⟩
end Go.Proofs.Ytmglkhnojimnlaa

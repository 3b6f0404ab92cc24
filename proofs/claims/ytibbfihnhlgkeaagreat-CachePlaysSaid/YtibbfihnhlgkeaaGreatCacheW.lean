/- The cache's heap in memory: Len, Less, Swap. -/
import Derived.Test.YtibbfihnhlgkeaaGreatCacheS
import Derived.Test.YtibbfihnhlgkeaaGreatCacheM2
namespace Go.Proofs.YtibbfihnhlgkeaaGreat
open Go.RowKit Go.Maps Go.Shelf
open NM (Bs bs ofBs)
open CM (It C)

/-- an entry's cells, where it stands in the heap -/
def itV (x : It) (i : Nat) : Array Value := #[.int .i64 x.e.kind, .string x.e.name, .int .u16 x.e.type, .int .u16 x.e.cls, x.rv, .int .i64 x.e.til, .int .i64 x.e.rank, .int .i64 x.e.epoch, .int .i64 x.e.src, .string x.key, .int .i64 x.used, .int .i64 (i : Int)]
def ptr (x : It) : Value := .pointer (some ⟨x.g, 0, none⟩)
/-- a row of entries in memory -/
structure Row (w : World) (G cap : Nat) (l : List It) : Prop where
  blk : ∃ cur, Blk w G 66 cur ∧ cur.size = cap ∧ ∀ i (hi : i < l.length), cur[i]? = some (ptr l[i])
  le : l.length ≤ cap ∧ cap ≤ maxLen
  items : ∀ i (hi : i < l.length), Blk w l[i].g 65 (itV l[i] i)
  gs : (l.map It.g).Nodup
section
variable {w : World} {G cap : Nat} {l : List It}
theorem Row.cell (h : Row w G cap l) (i : Nat) (hi : i < l.length) : w.cell? ⟨G, i, none⟩ = some (ptr l[i]) := by
  obtain ⟨cur, h1, _, h2⟩ := h.blk
  exact (h1.cell i).trans (h2 i hi)
theorem Row.frozen (h : Row w G cap l) (i : Nat) : w.frozen? ⟨G, i, none⟩ = false := by
  obtain ⟨cur, h1, _, h2⟩ := h.blk
  exact h1.frozen i
theorem Row.ne (h : Row w G cap l) (i : Nat) (hi : i < l.length) : G ≠ l[i].g := by
  obtain ⟨cur, h1, _, h2⟩ := h.blk
  exact h1.ne_type (h.items i hi) (by decide)
theorem Row.ne2 (h : Row w G cap l) {i j : Nat} (hi : i < l.length) (hj : j < l.length) (hij : i ≠ j) : l[i].g ≠ l[j].g := by
  intro e
  have h1 : (l.map It.g)[i]'(by simpa using hi) = (l.map It.g)[j]'(by simpa using hj) := by simp [e]
  exact hij ((List.getElem_inj h.gs).1 h1)
theorem Row.touch {w' : World} {S : List Nat} (h : Row w G cap l) (t : Touch S w w') (hG : G ∉ S) (hg : ∀ x ∈ l, x.g ∉ S) : Row w' G cap l := by
  obtain ⟨cur, h1, h2, h3⟩ := h.blk
  exact ⟨⟨cur, t.blk h1 hG, h2, h3⟩, h.le, fun i hi => t.blk (h.items i hi) (hg _ (List.getElem_mem _)), h.gs⟩
end
theorem ilen_any (w : World) (a : Option Addr) (n cap : Nat) : Calls Tryz.prog 122 #[.slice a n cap] w fun e w' => e = .returned (.int .i64 (n : Int)) ∧ w' = w := by
  go_enter Tryz.func122, Tryz.ntmps122
  go_wp2_with fail
  go_ret
  exact ⟨rfl, rfl⟩
set_option maxRecDepth 10000 in
set_option maxHeartbeats 400000 in
theorem iless_any (w : World) (G cap : Nat) (l : List It) (h : Row w G cap l) (i j : Nat) (hi : i < l.length) (hj : j < l.length) :
    Calls Tryz.prog 123 #[.slice (some ⟨G, 0, none⟩) l.length cap, .int .i64 (i : Int), .int .i64 (j : Int)] w fun e w' => e = .returned (.bool (CM.less l i j)) ∧ Touch [] w w' := by
  have c1 := h.cell i hi
  have c2 := h.cell j hj
  have d1 : w.cell? ⟨l[i].g, 5, none⟩ = some (.int .i64 l[i].e.til) := (h.items i hi).cell 5
  have d2 : w.cell? ⟨l[j].g, 5, none⟩ = some (.int .i64 l[j].e.til) := (h.items j hj).cell 5
  have hr : CM.less l i j = decide (l[i].e.til < l[j].e.til) := by unfold CM.less; rw [getElem!_pos l i hi, getElem!_pos l j hj]
  obtain ⟨r, hrr⟩ : ∃ r, r = CM.less l i j := ⟨_, rfl⟩
  rw [← hrr] at hr ⊢
  unfold ptr at c1 c2
  obtain ⟨gi, hgi⟩ : ∃ g, g = l[i].g := ⟨_, rfl⟩
  obtain ⟨gj, hgj⟩ : ∃ g, g = l[j].g := ⟨_, rfl⟩
  obtain ⟨ti, hti⟩ : ∃ g, g = l[i].e.til := ⟨_, rfl⟩
  obtain ⟨tj, htj⟩ : ∃ g, g = l[j].e.til := ⟨_, rfl⟩
  rw [← hgi] at c1 d1
  rw [← hgj] at c2 d2
  rw [← hti] at d1 hr
  rw [← htj] at d2 hr
  have HR := Lib.hid hr
  have h1 : (i : Int) < (l.length : Int) := by omega
  have h2 : (j : Int) < (l.length : Int) := by omega
  obtain ⟨n, hn⟩ : ∃ n, n = l.length := ⟨_, rfl⟩
  rw [← hn] at h1 h2 ⊢
  clear hr hrr hgi hgj hti htj hn hi hj h
  go_enter Tryz.func123, Tryz.ntmps123
  go_wp2_with fail
  go_quiet (fail)
  go_wp2_with fail
  go_ret
  exact ⟨by rw [HR.out]; rfl, Touch.drewN [] w nq⟩
theorem swap_at {l : List It} {i j : Nat} (hi : i < l.length) (hj : j < l.length) (hij : i ≠ j) (k : Nat) (hk : k < (CM.swap l i j).length) :
    (CM.swap l i j)[k] = if k = i then l[j] else if k = j then l[i] else l[k]'(by rwa [CM.swap_length] at hk) := by
  have hk2 : k < l.length := by rwa [CM.swap_length] at hk
  have e : CM.swap l i j = (l.set i l[j]).set j l[i] := by unfold CM.swap; rw [getElem!_pos l j hj, getElem!_pos l i hi]
  have h9 : (CM.swap l i j)[k]? = ((l.set i l[j]).set j l[i])[k]? := by rw [e]
  rw [List.getElem?_eq_getElem hk, List.getElem?_eq_getElem (by simpa using hk2)] at h9
  rw [Option.some.inj h9, List.getElem_set, List.getElem_set]
  by_cases h1 : j = k
  · subst h1
    rw [if_pos rfl, if_neg (fun e => hij e.symm), if_pos rfl]
  · rw [if_neg h1]
    by_cases h2 : i = k
    · subst h2
      rw [if_pos rfl, if_pos rfl]
    · rw [if_neg h2, if_neg (fun e => h2 e.symm), if_neg (fun e => h1 e.symm)]
theorem swap_gs {l : List It} {i j : Nat} (hi : i < l.length) (hj : j < l.length) (h : (l.map It.g).Nodup) : ((CM.swap l i j).map It.g).Nodup := ((CM.swap_perm l i j hi hj).map _).nodup_iff.2 h
set_option maxRecDepth 10000 in
set_option maxHeartbeats 800000 in
theorem iswap_any (w : World) (G cap : Nat) (l : List It) (h : Row w G cap l) (i j : Nat) (hi : i < l.length) (hj : j < l.length) (hij : i ≠ j) :
    Calls Tryz.prog 124 #[.slice (some ⟨G, 0, none⟩) l.length cap, .int .i64 (i : Int), .int .i64 (j : Int)] w fun e w' => (∃ v, e = .returned v) ∧ Row w' G cap (CM.swap l i j) ∧ Touch [G, l[i].g, l[j].g] w w' := by
  obtain ⟨cur, b0, hcz, hcur⟩ := h.blk
  have c1 := h.cell i hi
  have c2 := h.cell j hj
  have f1 := h.frozen i
  have f2 := h.frozen j
  have bi := h.items i hi
  have bj := h.items j hj
  have ngi := h.ne i hi
  have ngj := h.ne j hj
  have nij := h.ne2 hi hj hij
  have b1 := b0.set_ i (ptr l[j])
  have b2 := b1.set_ j (ptr l[i])
  have bi2 := (bi.far (p := ⟨G, i, none⟩) (Ne.symm ngi) (ptr l[j])).far (p := ⟨G, j, none⟩) (Ne.symm ngi) (ptr l[i])
  have bj2 := (bj.far (p := ⟨G, i, none⟩) (Ne.symm ngj) (ptr l[j])).far (p := ⟨G, j, none⟩) (Ne.symm ngj) (ptr l[i])
  have h1 : (i : Int) < (l.length : Int) := by omega
  have h2 : (j : Int) < (l.length : Int) := by omega
  have HALL := Lib.hid h
  have HB := Lib.hid (And.intro b2 (And.intro bi2 bj2))
  have HC := Lib.hid (And.intro hcz hcur)
  have HN := Lib.hid (And.intro ngi (And.intro ngj nij))
  have HT := Lib.hid (((Touch.refl [G, l[i].g, l[j].g] w).setCell ⟨G, i, none⟩ (ptr l[j]) (.inl (by simp))).setCell ⟨G, j, none⟩ (ptr l[i]) (.inl (by simp)))
  obtain ⟨gi, hgi⟩ : ∃ g, g = l[i].g := ⟨_, rfl⟩
  obtain ⟨gj, hgj⟩ : ∃ g, g = l[j].g := ⟨_, rfl⟩
  have HG := Lib.hid (And.intro hgi hgj)
  have pi : ptr l[i] = .pointer (some ⟨gi, 0, none⟩) := by unfold ptr; rw [hgi]
  have pj : ptr l[j] = .pointer (some ⟨gj, 0, none⟩) := by unfold ptr; rw [hgj]
  rw [pi] at c1
  rw [pj] at c2
  have c3 : (w.setCell ⟨G, i, none⟩ (.pointer (some ⟨gj, 0, none⟩))).cell? ⟨G, j, none⟩ = some (.pointer (some ⟨gj, 0, none⟩)) := (World.cell?_setCell_other _ _ _ _ (by intro e; injection e with _ e2 _; exact hij e2)).trans c2
  have f3 : (w.setCell ⟨G, i, none⟩ (.pointer (some ⟨gj, 0, none⟩))).frozen? ⟨G, j, none⟩ = false := by rw [World.frozen?_setCell]; exact f2
  have HP := Lib.hid (And.intro pi pj)
  obtain ⟨n, hn⟩ : ∃ n, n = l.length := ⟨_, rfl⟩
  rw [← hn] at h1 h2 ⊢
  have HIJ := Lib.hid (And.intro hn hij)
  clear b0 bi bj b1 b2 bi2 bj2 ngi ngj nij h pi pj hgi hgj hn hcz hcur hij
  go_enter Tryz.func124, Tryz.ntmps124
  go_wp2_with fail
  go_region
  obtain ⟨w1, hw1⟩ : ∃ w1, w1 = ((w.setCell ⟨G, i, none⟩ (.pointer (some ⟨gj, 0, none⟩))).setCell ⟨G, j, none⟩ (.pointer (some ⟨gi, 0, none⟩))).drew := ⟨_, rfl⟩
  rw [← hw1]
  have d1 : w1.cell? ⟨G, i, none⟩ = some (.pointer (some ⟨gj, 0, none⟩)) := by
    rw [hw1]
    exact (World.cell?_setCell_other _ _ _ _ (by intro e; injection e with _ e2 _; exact HIJ.out.2 e2.symm)).trans (World.cell?_setCell_same' _ _ _ (by rw [c1]; rfl))
  have d2 : w1.cell? ⟨G, j, none⟩ = some (.pointer (some ⟨gi, 0, none⟩)) := by
    rw [hw1]
    exact World.cell?_setCell_same' _ _ _ (by rw [c3]; rfl)
  have bG : Blk w1 G 66 ((cur.setIfInBounds i (ptr l[j])).setIfInBounds j (ptr l[i])) := by rw [hw1, ← HP.out.1, ← HP.out.2]; exact HB.out.1
  have bI : Blk w1 gi 65 (itV l[i] i) := by rw [hw1, ← HP.out.1, ← HP.out.2, HG.out.1]; exact HB.out.2.1
  have bJ : Blk w1 gj 65 (itV l[j] j) := by rw [hw1, ← HP.out.1, ← HP.out.2, HG.out.2]; exact HB.out.2.2
  have T1 : Touch [G, gi, gj] w w1 := by
    rw [hw1, ← HP.out.1, ← HP.out.2, HG.out.1, HG.out.2]; exact HT.out.drew_
  have hji : gj ≠ gi := by rw [HG.out.1, HG.out.2]; exact Ne.symm HN.out.2.2
  have k1 : w1.cell? ⟨gj, 11, none⟩ = some (.int .i64 (j : Int)) := bJ.cell 11
  have k2 : w1.cell? ⟨gi, 11, none⟩ = some (.int .i64 (i : Int)) := bI.cell 11
  have e1 : w1.frozen? ⟨gj, 11, none⟩ = false := bJ.frozen 11
  have e2 : w1.frozen? ⟨gi, 11, none⟩ = false := bI.frozen 11
  have k3 : (w1.setCell ⟨gj, 11, none⟩ (.int .i64 (i : Int))).cell? ⟨gi, 11, none⟩ = some (.int .i64 (i : Int)) := (World.cell?_setCell_other _ _ _ _ (by intro e; injection e with e3; exact hji e3)).trans k2
  have BB := Lib.hid (And.intro bG (And.intro bI (And.intro bJ (And.intro T1 hji))))
  have HW1 := Lib.hid hw1
  clear bG bI bJ T1 hji hw1 c1 c2 c3 f1 f2 f3
  go_wp2_with fail
  go_region
  all_goals
    go_end0
    obtain ⟨bG, bI, bJ, T1, hji⟩ := BB.out
    have hgG : G ≠ gi ∧ G ≠ gj := by rw [HG.out.1, HG.out.2]; exact ⟨HN.out.1, HN.out.2.1⟩
    have t2 : Touch [G, gi, gj] w ((w1.setCell ⟨gj, 11, none⟩ (.int .i64 (i : Int))).setCell ⟨gi, 11, none⟩ (.int .i64 (j : Int))).drew :=
      ((T1.setCell ⟨gj, 11, none⟩ _ (.inl (by simp))).setCell ⟨gi, 11, none⟩ _ (.inl (by simp))).drew_
    have qG := ((bG.far (p := ⟨gj, 11, none⟩) hgG.2 (.int .i64 (i : Int))).far (p := ⟨gi, 11, none⟩) hgG.1 (.int .i64 (j : Int))).drew
    have qI := ((bI.far (p := ⟨gj, 11, none⟩) (Ne.symm hji) (.int .i64 (i : Int))).set_ 11 (.int .i64 (j : Int))).drew
    have qJ := ((bJ.set_ 11 (.int .i64 (i : Int))).far (p := ⟨gi, 11, none⟩) hji (.int .i64 (j : Int))).drew
    obtain ⟨w9, hw9⟩ : ∃ w9, w9 = ((w1.setCell ⟨gj, 11, none⟩ (.int .i64 (i : Int))).setCell ⟨gi, 11, none⟩ (.int .i64 (j : Int))).drew := ⟨_, rfl⟩
    rw [← hw9] at t2 qG qI qJ ⊢
    refine ⟨⟨_, rfl⟩, ?_, by rw [← HG.out.1, ← HG.out.2]; exact t2⟩
    have hij := HIJ.out.2
    refine ⟨⟨_, qG, by simp [HC.out.1], fun k hk => ?_⟩, by rw [CM.swap_length]; exact HALL.out.le, fun k hk => ?_, swap_gs hi hj HALL.out.gs⟩
    · have hk2 : k < l.length := by rwa [CM.swap_length] at hk
      have hic : i < cur.size := by rw [HC.out.1]; exact Nat.lt_of_lt_of_le hi HALL.out.le.1
      have hjc : j < cur.size := by rw [HC.out.1]; exact Nat.lt_of_lt_of_le hj HALL.out.le.1
      rw [swap_at hi hj hij k hk]
      by_cases h3 : k = i
      · subst h3
        rw [if_pos rfl, Array.getElem?_setIfInBounds_ne (Ne.symm hij), Array.getElem?_setIfInBounds_self_of_lt hic]
      · rw [if_neg h3]
        by_cases h4 : k = j
        · subst h4
          rw [if_pos rfl, Array.getElem?_setIfInBounds_self_of_lt (by simpa using hjc)]
        · rw [if_neg h4, Array.getElem?_setIfInBounds_ne (Ne.symm h4), Array.getElem?_setIfInBounds_ne (Ne.symm h3)]
          exact HC.out.2 k hk2
    · have hk2 : k < l.length := by rwa [CM.swap_length] at hk
      rw [swap_at hi hj hij k hk]
      by_cases h3 : k = i
      · subst h3
        rw [if_pos rfl, ← HG.out.2]
        exact qJ
      · rw [if_neg h3]
        by_cases h4 : k = j
        · subst h4
          rw [if_pos rfl, ← HG.out.1]
          exact qI
        · rw [if_neg h4]
          refine t2.blk (HALL.out.items k hk2) ?_
          have n1 := HALL.out.ne2 hk2 hi h3
          have n2 := HALL.out.ne2 hk2 hj h4
          have n3 := HALL.out.ne k hk2
          simp only [List.mem_cons, List.not_mem_nil, or_false, not_or]
          exact ⟨Ne.symm n3, by rw [HG.out.1]; exact n1, by rw [HG.out.2]; exact n2⟩
end Go.Proofs.YtibbfihnhlgkeaaGreat

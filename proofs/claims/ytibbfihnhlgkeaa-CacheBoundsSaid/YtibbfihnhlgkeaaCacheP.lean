/- The heap in memory, nil or not; items.Push, items.Pop. -/
import Derived.Test.YtibbfihnhlgkeaaCacheJ
import Derived.Deep.AppendLies
namespace Go.Proofs.Ytibbfihnhlgkeaa
open Go.RowKit Go.Maps Go.Shelf
open NM (Bs bs ofBs)
open CM (It C)

structure Hp (w : World) (B : Nat) (cs : Array Value) (v : Value) (l : List It) : Prop where
  blk : Blk w B 61 cs
  at2 : cs[2]? = some v
  own : w.ownsRow 0 74 1 v l.length (l.map ptr)
  items : ∀ i (hi : i < l.length), Blk w l[i].g 77 (itV l[i] i)
  gs : (l.map It.g).Nodup
theorem ptr_inj {x y : It} (h : ptr x = ptr y) : x.g = y.g := by
  unfold ptr at h
  injection h with h
  injection h with h
  injection h
theorem Hp.row {w : World} {B G n cap : Nat} {cs : Array Value} {l : List It} (h : Hp w B cs (.slice (some ⟨G, 0, none⟩) n cap) l) : n = l.length ∧ Row w G cap l ∧ Stale w B G cap l.length cs := by
  obtain ⟨h0, h1⟩ := h.own
  rcases h1 with ⟨h1, _⟩ | ⟨g, c, cur, h1, _, h2, h3, h4, h5, h6⟩
  · cases h1
  · injection h1 with e1 e2 e3
    injection e1 with e1
    injection e1 with e1
    subst e1 e2 e3
    refine ⟨rfl, ⟨⟨cur, h2, by simpa using h5, fun i hi => ?_⟩, ⟨h3, h4⟩, h.items, h.gs⟩, ⟨h.blk, h.at2⟩⟩
    have e : (cur.toList.take (l.length * 1))[i]? = (l.map ptr)[i]? := by rw [h6]
    rw [List.getElem?_take, if_pos (by omega), Array.getElem?_toList] at e
    rw [e, List.getElem?_map, List.getElem?_eq_getElem hi]
    rfl
theorem Hp.of {w : World} {B G cap : Nat} {cs : Array Value} {l : List It} (r : Row w G cap l) (s : Stale w B G cap l.length cs) : Hp w B cs (.slice (some ⟨G, 0, none⟩) l.length cap) l := by
  obtain ⟨cur, h1, h2, h3⟩ := r.blk
  refine ⟨s.blk, s.at2, ⟨by simp, .inr ⟨G, cap, cur, rfl, Nat.zero_le _, h1, r.le.1, r.le.2, by simpa using h2, ?_⟩⟩, r.items, r.gs⟩
  refine List.ext_getElem? (fun i => ?_)
  rw [List.getElem?_take]
  by_cases hi : i < l.length
  · rw [if_pos (by omega), Array.getElem?_toList, h3 i hi, List.getElem?_map, List.getElem?_eq_getElem hi]
    rfl
  · rw [if_neg (by omega), List.getElem?_eq_none (by simpa using hi)]
theorem Hp.shape {w : World} {B : Nat} {cs : Array Value} {v : Value} {l : List It} (h : Hp w B cs v l) : (v = .slice none 0 0 ∧ l = []) ∨ ∃ G cap, v = .slice (some ⟨G, 0, none⟩) l.length cap := by
  rcases h.own.2 with ⟨rfl, h0⟩ | ⟨g, c, cur, h1, _⟩
  · exact .inl ⟨rfl, List.length_eq_zero_iff.1 h0⟩
  · exact .inr ⟨g, c, h1⟩
theorem Hp.ownBlk {w : World} {B : Nat} {cs : Array Value} {v : Value} {l : List It} (h : Hp w B cs v l) {k : Nat} (hk : v.ownBlock = some k) : ∃ cur, Blk w k 74 cur := by
  rcases h.own.2 with ⟨rfl, h0⟩ | ⟨g, c, cur, rfl, _, h1, _⟩
  · cases hk
  · injection hk with hk
    exact ⟨cur, hk ▸ h1⟩
theorem Hp.touch {w w' : World} {S : List Nat} {B : Nat} {cs : Array Value} {v : Value} {l : List It} (h : Hp w B cs v l) (t : Touch S w w') (h1 : B ∉ S) (h2 : ∀ k, v.ownBlock = some k → k ∉ S) (h3 : ∀ x ∈ l, x.g ∉ S) : Hp w' B cs v l :=
  ⟨t.blk h.blk h1, h.at2, trow_touch h.own t h2, fun i hi => t.blk (h.items i hi) (h3 _ (List.getElem_mem _)), h.gs⟩
theorem infoPtr : (Try.prog.info? 74).map (fun i => (i.zero, i.size, i.bytes)) = some (some (.pointer none), 1, 8) := by kernel_rfl
theorem assert_item (w : World) (a : Option Addr) : (Instr.typeAssert (.iface 74 (.pointer a)) 20 74 false).run Try.prog w = .ok (.pointer a) w := by kernel_rfl
set_option maxRecDepth 10000 in
set_option maxHeartbeats 800000 in
theorem ipush_any (w : World) (B : Nat) (cs : Array Value) (v : Value) (l : List It) (h : Hp w B cs v l) (x : It) (k0 : Nat) (hx : Blk w x.g 77 (itV x k0)) (hxn : x.g ∉ l.map It.g) (hl : l.length ≤ 1099511627776) (hcs : 2 < cs.size) :
    Calls Try.prog 122 #[.pointer (some ⟨B, 2, none⟩), .iface 74 (ptr x)] w fun e w' => (∃ v, e = .returned v) ∧
      ∃ G cap, Hp w' B (cs.setIfInBounds 2 (.slice (some ⟨G, 0, none⟩) (l.length + 1) cap)) (.slice (some ⟨G, 0, none⟩) (l.length + 1) cap) (l ++ [x]) ∧ Touch (B :: x.g :: v.ownBlock.toList) w w' ∧ (v.ownBlock = some G ∨ w.heap.size ≤ G) := by
  obtain ⟨i0, hi, hz0, hz1, hz2⟩ := info_parts infoPtr
  have HI := Lib.hid (And.intro hi (And.intro hz0 (And.intro hz1 hz2)))
  obtain ⟨a, c, hv⟩ : ∃ a c, v = .slice a l.length c := by
    rcases h.shape with ⟨rfl, rfl⟩ | ⟨G, cap, rfl⟩
    · exact ⟨_, _, rfl⟩
    · exact ⟨_, _, rfl⟩
  have hBx : B ≠ x.g := h.blk.ne_type hx (by decide)
  have hc0 : w.cell? ⟨B, 2, none⟩ = some (.slice a l.length c) := by rw [← hv]; exact (h.blk.cell 2).trans h.at2
  have f0 : w.frozen? ⟨B, 2, none⟩ = false := h.blk.frozen 2
  have hc1 : w.cell? ⟨x.g, 11, none⟩ = some (.int .i64 (k0 : Int)) := hx.cell 11
  have f1 : w.frozen? ⟨x.g, 11, none⟩ = false := hx.frozen 11
  have hvo : ∀ k, v.ownBlock = some k → k ≠ x.g ∧ k ≠ B := fun k hk => by
    obtain ⟨cur, hb⟩ := h.ownBlk hk
    exact ⟨hb.ne_type hx (by decide), hb.ne_type h.blk (by decide)⟩
  have HH := Lib.hid h
  have HX := Lib.hid (And.intro hx (And.intro hxn (And.intro hl hcs)))
  have HVO := Lib.hid (And.intro hvo (And.intro hv hBx))
  obtain ⟨g, hg⟩ : ∃ g, g = x.g := ⟨_, rfl⟩
  have HG := Lib.hid hg
  obtain ⟨n, hn⟩ : ∃ n, n = l.length := ⟨_, rfl⟩
  have HN := Lib.hid hn
  have hpx : ptr x = .pointer (some ⟨g, 0, none⟩) := by unfold ptr; rw [hg]
  rw [hpx]
  rw [← hg] at hc1 f1 ⊢
  rw [← hn] at hc0 ⊢
  have hc2 : (w.setCell ⟨g, 11, none⟩ (.int .i64 (n : Int))).cell? ⟨B, 2, none⟩ = some (.slice a n c) := by
    refine (World.cell?_setCell_other _ _ _ _ ?_).trans hc0
    intro e
    injection e with e
    exact HVO.out.2.2 (by rw [← HG.out]; exact e.symm)
  have hown : ((w.setCell ⟨g, 11, none⟩ (.int .i64 (n : Int))).alloc (.cells #[.pointer (some ⟨g, 0, none⟩)] 74)).ownsRow 0 74 1 (.slice a n c) n (l.map ptr) := by
    have h9 := h.own
    rw [hv, ← hn] at h9
    refine trow_touch h9 (((Touch.refl [g] w).setCell ⟨g, 11, none⟩ _ (.inl (by simp))).alloc _) (fun k hk => ?_)
    have h8 := (hvo k (by rw [hv, ← hn]; exact hk)).1
    simp only [List.mem_cons, List.not_mem_nil, or_false]
    rw [hg]
    exact h8
  have hnew : ∀ j u, ([.pointer (some ⟨g, 0, none⟩)] : List Value)[j]? = some u → ((w.setCell ⟨g, 11, none⟩ (.int .i64 (n : Int))).alloc (.cells #[.pointer (some ⟨g, 0, none⟩)] 74)).cell? ((⟨w.heap.size, 0, none⟩ : Addr).add j) = some u :=
    World.news_of_block (cs := #[.pointer (some ⟨g, 0, none⟩)]) (t := 74) (fr := (0, 0)) (Blk.new' _ _ _ (by simp))
  have hB1 : Blk ((w.setCell ⟨g, 11, none⟩ (.int .i64 (n : Int))).alloc (.cells #[.pointer (some ⟨g, 0, none⟩)] 74)) B 61 cs := (h.blk.far (by rw [hg]; exact hBx) _).alloc _
  have hX1 : Blk ((w.setCell ⟨g, 11, none⟩ (.int .i64 (n : Int))).alloc (.cells #[.pointer (some ⟨g, 0, none⟩)] 74)) g 77 (itV x n) := by
    have h9 : Blk w g 77 (itV x k0) := by rw [hg]; exact hx
    exact (h9.set_ 11 (.int .i64 (n : Int))).alloc _
  have hT1 : Touch [g] w ((w.setCell ⟨g, 11, none⟩ (.int .i64 (n : Int))).alloc (.cells #[.pointer (some ⟨g, 0, none⟩)] 74)) := ((Touch.refl [g] w).setCell ⟨g, 11, none⟩ _ (.inl (by simp))).alloc _
  have HW := Lib.hid (And.intro hown (And.intro hnew (And.intro hB1 (And.intro hX1 hT1))))
  have HLEN := Lib.hid (And.intro (show n + 1 ≤ maxLen by rw [hn]; unfold maxLen; omega) (show (n + 1) * 8 ≤ 140737488355328 by rw [hn]; omega))
  have hpxx := Lib.hid hpx
  clear h hx hxn hl hcs hvo hv hBx hg hn hi hz0 hz1 hz2 hpx hown hnew hB1 hX1 hT1
  go_enter Try.func122, Try.ntmps122
  have hta := assert_item w (some ⟨g, 0, none⟩)
  go_wp2_with (at_builtin; refine wpList_append_lies _ rfl (.tmp 17) (.tmp 19) 59 rfl 0 74 i0 _ 1 8 Try.underlying59 HI.out.1 HI.out.2.1 HI.out.2.2.1 HI.out.2.2.2 rfl (by decide) (.slice a n c) n (l.map ptr) rfl HW.out.1 ⟨w.heap.size, 0, none⟩ 1 1 [.pointer (some ⟨g, 0, none⟩)] rfl rfl HW.out.2.1 (fun u hu => by simp only [List.mem_cons, List.not_mem_nil, or_false] at hu; subst hu; rfl) (by decide) HLEN.out.1 HLEN.out.2 (Nat.zero_le _) (w.heap.size + 1) (by simp) ?_; intro G cap w2 hown hgrow hat hlt; have ht2 := Touch.of_grown hgrow; have hB2 := ht2.blk HW.out.2.2.1 (by intro hm; rw [Option.mem_toList] at hm; exact (HVO.out.1 B (by rw [HVO.out.2.1, ← HN.out]; exact hm)).2 rfl); have g2 : w2.frozen? ⟨B, 2, none⟩ = false := hB2.frozen 2; have g3 : w2.cell? ⟨B, 2, none⟩ = some (.slice a n c) := (hB2.cell 2).trans ((HH.out.at2).trans (by rw [HVO.out.2.1, ← HN.out])); have HE := Lib.hid (And.intro hown (And.intro ht2 (And.intro hat hB2))); clear hown hgrow hat hlt ht2 hB2)
  go_returns
  obtain ⟨hown, ht2, hat, hB2⟩ := HE.out
  obtain ⟨_, _, hB1, hX1, hT1⟩ := HW.out
  have h := HH.out
  obtain ⟨hx, hxn, hl, hcs⟩ := HX.out
  obtain ⟨hvo, hv, hBx⟩ := HVO.out
  have hvb : v.ownBlock.toList = (Value.slice a n c).ownBlock.toList := by rw [hv, HN.out]
  have hgB : G ≠ B := by
    rcases hown.2 with ⟨e, _⟩ | ⟨G', c', cur, e, _, e2, _⟩
    · cases e
    · injection e with e
      injection e with e
      injection e with e
      subst e
      exact Blk.ne_type (w := w2) (t := 74) (cs := cur) e2 hB2 (by decide)
  refine ⟨⟨_, rfl⟩, G, cap, ⟨hB2.set_ 2 _, by rw [Array.getElem?_setIfInBounds_self_of_lt hcs], ?_, ?_, ?_⟩, ?_, ?_⟩
  · rw [List.length_append, List.map_append, List.map_cons, List.map_nil, hpxx.out, List.length_cons, List.length_nil, Nat.zero_add, ← HN.out]
    refine trow_touch hown ((Touch.refl [B] w2).setCell ⟨B, 2, none⟩ _ (.inl (by simp))) (fun k hk => ?_)
    injection hk with hk
    simp only [List.mem_cons, List.not_mem_nil, or_false]
    rw [← hk]
    exact hgB
  · intro i hi
    have hfar : ∀ {q : Nat} {ps : Array Value}, Blk w2 q 77 ps → Blk (w2.setCell ⟨B, 2, none⟩ (.slice (some ⟨G, 0, none⟩) (n + 1) cap)) q 77 ps := fun hb => hb.far (p := ⟨B, 2, none⟩) (hb.ne_type hB2 (by decide)) _
    have hnin : ∀ {q : Nat} {ps : Array Value}, Blk w q 77 ps → q ∉ (Value.slice a n c).ownBlock.toList := fun hb hm => by
      rw [← hvb, Option.mem_toList] at hm
      obtain ⟨cur, h7⟩ := h.ownBlk hm
      exact hb.ne_type h7 (by decide) rfl
    rcases Nat.lt_or_ge i l.length with hlt | hge
    · rw [List.getElem_append_left hlt]
      have hb := h.items i hlt
      refine hfar (ht2.blk (hT1.blk hb ?_) (hnin hb))
      simp only [List.mem_cons, List.not_mem_nil, or_false]
      rw [HG.out]
      exact fun e => hxn (by rw [← e]; exact List.mem_map_of_mem (List.getElem_mem _))
    · have hie : i = l.length := by rw [List.length_append, List.length_cons, List.length_nil] at hi; omega
      subst hie
      rw [List.getElem_append_right (Nat.le_refl _)]
      simp only [Nat.sub_self, List.getElem_cons_zero]
      rw [← HG.out, ← HN.out]
      exact hfar (ht2.blk hX1 (hnin (ps := itV x k0) (by rw [HG.out]; exact hx)))
  · rw [List.map_append, List.map_cons, List.map_nil]
    rw [List.nodup_append]
    refine ⟨h.gs, by simp, fun p hp q hq => ?_⟩
    simp only [List.mem_cons, List.not_mem_nil, or_false] at hq
    rw [hq]
    exact fun e => hxn (e ▸ hp)
  · refine ((hT1.mono (S' := B :: g :: v.ownBlock.toList) (fun q hq => .inl (by simp at hq; simp [hq]))).trans ht2 (fun q hq => .inl (by rw [hvb]; simp at hq ⊢; right; right; exact hq))).setCell ⟨B, 2, none⟩ _ (.inl (by simp))
  · rcases hat with e | e
    · left; rw [hv, ← HN.out]; exact e
    · right; omega
end Go.Proofs.Ytibbfihnhlgkeaa

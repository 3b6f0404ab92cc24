/- items.Pop; container/heap: Push, Remove. -/
import Derived.Test.YtibbfihnhlgkeaaCacheP
namespace Go.Proofs.Ytibbfihnhlgkeaa
open Go.RowKit Go.Maps Go.Shelf
open NM (Bs bs ofBs)
open CM (It C)

theorem Row.take {w : World} {G cap : Nat} {l : List It} (h : Row w G cap l) (n : Nat) : Row w G cap (l.take n) := by
  obtain ⟨cur, h1, h2, h3⟩ := h.blk
  refine ⟨⟨cur, h1, h2, fun i hi => ?_⟩, ⟨?_, h.le.2⟩, fun i hi => ?_, ?_⟩
  · rw [List.length_take] at hi
    rw [List.getElem_take]
    exact h3 i (by omega)
  · rw [List.length_take]
    have := h.le.1
    omega
  · rw [List.length_take] at hi
    rw [List.getElem_take]
    exact h.items i (by omega)
  · rw [List.map_take]
    exact h.gs.sublist (List.take_sublist _ _)
set_option maxRecDepth 10000 in
set_option maxHeartbeats 800000 in
theorem ipop_any (w : World) (B G cap : Nat) (cs : Array Value) (l : List It) (hs : Stale w B G cap l.length cs) (h : Row w G cap l) (hl : 0 < l.length) (hcs : 2 < cs.size) :
    Calls Try.prog 121 #[.pointer (some ⟨B, 2, none⟩)] w fun e w' => (∃ v, e = .returned v) ∧
      Row w' G cap (l.take (l.length - 1)) ∧ Stale w' B G cap (l.length - 1) (cs.setIfInBounds 2 (.slice (some ⟨G, 0, none⟩) (l.length - 1 : Nat) cap)) ∧ Touch [B] w w' := by
  have hml := h.le
  obtain ⟨n, hn⟩ : ∃ n, n = l.length - 1 := ⟨_, rfl⟩
  have hnl : l.length = n + 1 := by omega
  have hc0 := hs.cell
  have f0 : w.frozen? ⟨B, 2, none⟩ = false := hs.blk.frozen 2
  have hc1 := h.cell n (by omega)
  obtain ⟨p, hp⟩ : ∃ p, p = (l[n]'(by omega)).g := ⟨_, rfl⟩
  have hpp : ptr (l[n]'(by omega)) = .pointer (some ⟨p, 0, none⟩) := by unfold ptr; rw [hp]
  rw [hpp] at hc1
  have HS := Lib.hid hs
  have HH := Lib.hid h
  have HN := Lib.hid (And.intro hn hnl)
  have HCS := Lib.hid hcs
  rw [hnl] at hc0 hml ⊢
  have b1 : -9223372036854775808 ≤ ((n + 1 : Nat) : Int) - 1 ∧ ((n + 1 : Nat) : Int) - 1 ≤ 9223372036854775807 := by unfold maxLen at hml; omega
  have hi1 : (n : Int) < ((n + 1 : Nat) : Int) := by omega
  have hi2 : (n : Int) ≤ (cap : Int) := by omega
  have hi3 : n ≤ cap := by omega
  have h1 : IntKind.i64.wrap (((n + 1 : Nat) : Int) - 1) = (n : Int) := (IntWalk.i64_in _ b1).trans (by omega)
  have h3 : wrap64 (n : Int) = (n : Int) := IntWalk.wrap64_in _ (by omega)
  clear hn hnl hs h hcs hml b1 hp hpp hl
  go_enter Try.func121, Try.ntmps121
  go_wp2_with fail
  go_ret
  have T : Touch [B] w (w.setCell ⟨B, 2, none⟩ (.slice (some ⟨G, 0, none⟩) n cap)) := (Touch.refl [B] w).setCell ⟨B, 2, none⟩ _ (.inl (by simp))
  have hne := HS.out.ne HH.out
  rw [Nat.add_sub_cancel]
  refine ⟨⟨_, rfl⟩, (HH.out.touch T ?_ ?_).take n, ⟨HS.out.blk.set_ 2 _, by rw [Array.getElem?_setIfInBounds_self_of_lt HCS.out]⟩, T⟩
  · simp only [List.mem_cons, List.not_mem_nil, or_false]
    exact fun e => hne (e ▸ List.mem_cons_self)
  · intro x hx
    simp only [List.mem_cons, List.not_mem_nil, or_false]
    exact fun e => hne (e ▸ List.mem_cons_of_mem _ (List.mem_map_of_mem hx))
/-- what a heap's call may turn -/
def foot (B : Nat) (v : Value) (l : List It) : List Nat := B :: (v.ownBlock.toList ++ l.map It.g)
theorem Hp.foot_ne {w : World} {B : Nat} {cs : Array Value} {v : Value} {l : List It} (h : Hp w B cs v l) {k : Nat} (hk : k ∈ v.ownBlock.toList ++ l.map It.g) : k ≠ B := by
  rcases List.mem_append.1 hk with hk | hk
  · rw [Option.mem_toList] at hk
    obtain ⟨cur, hb⟩ := h.ownBlk hk
    exact hb.ne_type h.blk (by decide)
  · obtain ⟨x, hx, rfl⟩ := List.mem_map.1 hk
    obtain ⟨i, hi, rfl⟩ := List.mem_iff_getElem.1 hx
    exact (h.items i hi).ne_type h.blk (by decide)
set_option maxRecDepth 10000 in
set_option maxHeartbeats 800000 in
theorem hpush_any (w : World) (B : Nat) (cs : Array Value) (v : Value) (l : List It) (h : Hp w B cs v l) (x : It) (k0 : Nat) (hx : Blk w x.g 77 (itV x k0)) (hxn : x.g ∉ l.map It.g) (hl : l.length ≤ 1099511627775) (hcs : 2 < cs.size) :
    Calls Try.prog 43 #[.iface 80 (.pointer (some ⟨B, 2, none⟩)), .iface 74 (ptr x)] w fun e w' => (∃ v, e = .returned v) ∧
      ∃ v', Hp w' B (cs.setIfInBounds 2 v') v' (CM.push l x) ∧ Touch (foot B v (x :: l)) w w' ∧ (∀ k, v'.ownBlock = some k → v.ownBlock = some k ∨ w.heap.size ≤ k) := by
  have HP := Lib.hid (ipush_any w B cs v l h x k0 hx hxn (by omega) hcs)
  have HL := Lib.hid hl
  have HCS := Lib.hid hcs
  clear h hx hxn hl hcs
  go_enter Try.func43, Try.ntmps43
  go_wp2_with fail
  refine HP.out.mono ?_
  rintro e w1 ⟨⟨v0, rfl⟩, G, cap, hh, T1, hat⟩
  obtain ⟨_, hr, hst⟩ := hh.row
  have hu := up_any w1 B G cap _ (l ++ [x]) hst hr l.length (by simp)
  have hc := hst.cell
  have hlen : (l ++ [x]).length = l.length + 1 := by simp
  rw [hlen] at hc
  obtain ⟨n, hn⟩ : ∃ n, n = l.length := ⟨_, rfl⟩
  have HU := Lib.hid hu
  have HC := Lib.hid hc
  have HX := Lib.hid (And.intro hh (And.intro T1 (And.intro hat (And.intro hr hst))))
  rw [← hn] at HC HU
  have h3 : wrap64 (n : Int) = (n : Int) := IntWalk.wrap64_in _ (by rw [hn]; have := HL.out; omega)
  have HN := Lib.hid hn
  clear hu hc hh T1 hat hr hst hn hlen
  go_wp2_with fail
  rw [meth_len _ _ _ _ HC.out]
  go_wp2_with fail
  refine (ilen_any w1 (some ⟨G, 0, none⟩) (n + 1) cap).mono ?_
  rintro e w2 ⟨rfl, rfl⟩
  go_wp2_with fail
  refine HU.out.mono ?_
  rintro e w3 ⟨⟨v3, rfl⟩, hr3, T3⟩
  go_wp2_with fail
  go_returns
  obtain ⟨hh, T1, hat, hr, hst⟩ := HX.out
  have hst3 := hst.touch T3 (hst.ne hr)
  have hln : (CM.up (n + 1) (l ++ [x]) n).length = l.length + 1 := by rw [CM.up_length]; simp
  rw [HN.out] at hr3 hln
  rw [show (l ++ [x]).length = (CM.up (l.length + 1) (l ++ [x]) l.length).length by rw [CM.up_length]] at hst3
  have hp := Hp.of hr3 hst3
  rw [hln] at hp
  refine ⟨⟨_, rfl⟩, _, hp, ?_, ?_⟩
  · have t1 : Touch (foot B v (x :: l)) w w2 := T1.mono (fun q hq => .inl (by
      unfold foot
      simp only [List.mem_cons, List.mem_append, List.map_cons] at hq ⊢
      rcases hq with h | h | h
      · exact .inl h
      · exact .inr (.inr (.inl h))
      · exact .inr (.inl h)))
    refine t1.trans T3 (fun q hq => ?_)
    unfold foot
    simp only [List.mem_cons, List.mem_append, List.map_append, List.map_cons, List.map_nil, List.not_mem_nil, or_false] at hq ⊢
    rcases hq with h | h | h
    · rcases hat with e | e
      · left; right; left; rw [Option.mem_toList, e, h]
      · right; rw [h]; exact e
    · left; right; right; right; exact h
    · left; right; right; left; exact h
  · intro k hk
    injection hk with hk
    rcases hat with e | e
    · left; rw [e]; exact congrArg some hk
    · right; rw [← hk]; exact e
end Go.Proofs.Ytibbfihnhlgkeaa

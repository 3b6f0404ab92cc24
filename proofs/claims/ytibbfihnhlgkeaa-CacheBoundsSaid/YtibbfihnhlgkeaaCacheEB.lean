import Derived.Test.YtibbfihnhlgkeaaNameT
import Derived.Deep.DeepCutAuto
import Derived.Handy
import Derived.Test.YtibbfihnhlgkeaaShelf
import Derived.Sort.Row
import Derived.Test.YtibbfihnhlgkeaaCacheT
import Derived.Sort.MapsRangeIn
import Derived.Sort.KeysCollected
import Derived.RangeFuncMany
import Derived.Shelf.SlIter.Nil
import Derived.Test.YtibbfihnhlgkeaaCacheP
import Derived.Test.YtibbfihnhlgkeaaCacheM2
import Derived.Test.YtibbfihnhlgkeaaCacheZ
import Derived.Test.YtibbfihnhlgkeaaCacheA4
import Derived.Test.YtibbfihnhlgkeaaArgs
import Derived.Test.YtibbfihnhlgkeaaCacheA6
import Derived.Test.YtibbfihnhlgkeaaCacheL

/- slices.Reverse over texts; package name: Shared, Under. -/
namespace Go.Proofs.Ytibbfihnhlgkeaa
open Go.RowKit Go.Maps Go.Shelf
open NM (Bs bs ofBs)

/-- a row of texts in its block -/
def Txts (w : World) (g cap n : Nat) (f : Nat → ByteArray) : Prop := ∃ cur : Array Value, Blk w g 9 cur ∧ cur.size = cap ∧ ∀ k, k < n → cur[k]? = some (.string (f k))
theorem Txts.of_row {w : World} {B g cap : Nat} {l : List ByteArray} (h : TRow w B (.slice (some ⟨g, 0, none⟩) l.length cap) l) : Txts w g cap l.length (fun k => l[k]!) ∧ l.length ≤ cap ∧ cap ≤ maxLen ∧ B ≤ g := by
  obtain ⟨_, h⟩ := h
  rcases h with ⟨h, _⟩ | ⟨g', cap', cur, e, h1, h2, h3, h4, h5, h6⟩
  · cases h
  · injection e with e1 _ e2
    injection e1 with e1
    injection e1 with e1
    subst e1 e2
    refine ⟨⟨cur, h2, by simpa using h5, fun k hk => ?_⟩, h3, h4, h1⟩
    have e : (cur.toList.take (l.length * 1))[k]? = (l.map Value.string)[k]? := by rw [h6]
    rw [List.getElem?_take, if_pos (by omega), Array.getElem?_toList] at e
    rw [e, List.getElem?_map, List.getElem?_eq_getElem hk]
    show some (Value.string l[k]) = some (.string l[k]!)
    rw [getElem!_pos l k hk]
theorem Txts.row {w : World} {B g cap : Nat} {l : List ByteArray} {f : Nat → ByteArray} (h : Txts w g cap l.length f) (hf : ∀ k (hk : k < l.length), f k = l[k]) (hc : l.length ≤ cap) (hm : cap ≤ maxLen) (hB : B ≤ g) : TRow w B (.slice (some ⟨g, 0, none⟩) l.length cap) l := by
  obtain ⟨cur, h1, h2, h3⟩ := h
  refine ⟨by simp, .inr ⟨g, cap, cur, rfl, hB, h1, hc, hm, by simpa using h2, List.ext_getElem? (fun k => ?_)⟩⟩
  rw [List.getElem?_take]
  by_cases hk : k < l.length
  · rw [if_pos (by omega), Array.getElem?_toList, h3 k hk, hf k hk, List.getElem?_map, List.getElem?_eq_getElem hk]
    rfl
  · rw [if_neg (by omega), List.getElem?_eq_none (by simpa using hk)]
theorem heap_putRow {α : Type} [Inhabited α] (enc : α → Value) (w : World) (g off q : Nat) (d : Array α) {cur : Array Value} {t : TypeId} (hb : Blk w g t cur) : Blk (Sort.putRow enc (Sort.ahead w q) g off d) g t (Sort.putCells enc off d cur) := by
  unfold Blk at hb ⊢
  unfold Sort.putRow Sort.mapBlock
  rw [Array.getElem?_modify, if_pos rfl]
  show (w.heap[g]?).map _ = _
  rw [hb]
  rfl
theorem touch_putRow {α : Type} [Inhabited α] (enc : α → Value) (w : World) (g off q : Nat) (d : Array α) : Touch [g] w (Sort.putRow enc (Sort.ahead w q) g off d) :=
  ⟨rfl, rfl, rfl, by rw [Sort.size_putRow]; exact Nat.le_refl _, fun k _ hk => by
    unfold Sort.putRow Sort.mapBlock
    rw [Array.getElem?_modify, if_neg (by simp only [List.mem_cons, List.not_mem_nil, or_false] at hk; exact fun e => hk e.symm)]
    rfl⟩
theorem putCells_at {α : Type} [Inhabited α] (enc : α → Value) (d : Array α) (cur : Array Value) (k : Nat) (hk : k < d.size) (hc : d.size ≤ cur.size) : (Sort.putCells enc 0 d cur)[k]? = some (enc d[k]!) := by
  unfold Sort.putCells
  rw [Array.getElem?_mapIdx, Array.getElem?_eq_getElem (by omega)]
  simp only [Option.map_some, Nat.sub_zero]
  rw [if_pos (by omega)]
set_option maxRecDepth 10000 in
set_option maxHeartbeats 1000000 in
theorem nrev_any (w : World) (B : Nat) (v : Value) (l : List ByteArray) (h : TRow w B v l) (hl : l.length ≤ 1000000) :
    Calls Try.prog 84 #[v] w fun e w' => (∃ r, e = .returned r) ∧ TRow w' B v l.reverse ∧ Touch v.ownBlock.toList w w' := by
  rcases Nat.eq_zero_or_pos l.length with h0 | hpos
  · obtain rfl : l = [] := List.length_eq_zero_iff.1 h0
    obtain ⟨a, c, rfl, _⟩ := TRow.shape h
    have he := Any.slices_Reverse_string_empty Try.revF a c w
    change Calls _ 84 _ _ _ at he
    refine he.mono ?_
    rintro e w' ⟨rfl, rfl⟩
    exact ⟨⟨_, rfl⟩, h, Touch.refl _ _⟩
  · obtain ⟨a, cap, rfl, hcap, hmax, hx⟩ := TRow.shape h
    obtain ⟨g, rfl, _, _, _⟩ := hx 0 hpos
    obtain ⟨⟨cur, hb, hc, hk⟩, _, _, hB⟩ := Txts.of_row h
    have hH : Sort.Holds encStr w g 0 ((l.map bs).toArray) := fun j hj => by
      have hj2 : j < l.length := by simpa using hj
      refine ⟨?_, hb.frozen _⟩
      rw [Nat.zero_add]
      refine (hb.cell j).trans ((hk j hj2).trans ?_)
      show some (Value.string (l[j]!)) = _
      rw [getElem!_pos l j hj2, getElem!_pos _ j hj]
      simp only [List.getElem_toArray, List.getElem_map]
      exact congrArg (fun s => some (Value.string s)) (NM.ofBs_bs _).symm
    have he := Any.slices_Reverse_string Try.revF g 0 cap (l.map bs) w hH (by simp; omega)
    rw [List.length_map] at he
    change Calls _ 84 _ _ _ at he
    refine he.mono ?_
    rintro e w' ⟨rfl, q, rfl⟩
    refine ⟨⟨_, rfl⟩, ?_, touch_putRow _ _ _ _ _ _⟩
    have hx2 : Txts (Sort.putRow encStr (Sort.ahead w q) g 0 (l.map bs).reverse.toArray) g cap l.reverse.length (fun k => l.reverse[k]!) := by
      refine ⟨_, heap_putRow _ _ _ _ _ _ hb, ?_, fun k hk2 => ?_⟩
      · unfold Sort.putCells
        simp [hc]
      · have hk3 : k < (l.map bs).reverse.toArray.size := by simpa using hk2
        rw [putCells_at _ _ _ k hk3 (by simp; omega), getElem!_pos _ k hk3]
        simp only [List.getElem_toArray, List.getElem_reverse, List.getElem_map, List.length_map]
        rw [getElem!_pos l.reverse k hk2, List.getElem_reverse]
        exact congrArg (fun s => some (Value.string s)) (NM.ofBs_bs _)
    have := Txts.row (B := B) hx2 (fun k hk2 => getElem!_pos l.reverse k hk2) (by simpa using hcap) hmax hB
    rw [List.length_reverse] at this
    exact this
end Go.Proofs.Ytibbfihnhlgkeaa

/- Package name: two, Shared, Under. -/
namespace Go.Proofs.Ytibbfihnhlgkeaa
open Go.RowKit Go.Maps Go.Shelf
open NM (Bs bs ofBs)

theorem lt_sub_of_u {n x i a b : Nat} (h1 : a = x) (h2 : b = i) (h : n - x < n - i) : n - a < n - b := by rw [h1, h2]; exact h
/-- a name's labels, small, from the last one on -/
def revs (l : Bs) : List ByteArray := (labelsOf (NM.lower l)).reverse
theorem revs_length (l : Bs) : (revs l).length ≤ 255 := by
  unfold revs
  rw [List.length_reverse]
  have := (labelsOf_length (NM.lower l)).2.1
  omega
theorem revs_lows {l : Bs} (h : NM.check l = 0) : (revs l).map bs = lows l := by
  unfold revs labelsOf
  rw [NM.lower_check, if_pos h, lows_good h, List.map_reverse, NM.lower_labels, List.map_map]
  congr 1
  have e : bs ∘ ofBs = id := funext fun x => NM.bs_ofBs x
  rw [e, List.map_id]
theorem low_size (s : ByteArray) : (ofBs (NM.lower (bs s))).size = s.size := by rw [NM.ofBs_size, NM.lower_length, NM.bs_length]
set_option maxRecDepth 10000 in
set_option maxHeartbeats 1000000 in
theorem ntwo_any (w : World) (a b : ByteArray) (ha : a.size ≤ 1099511627776) (hb : b.size ≤ 1099511627776) :
    Calls Try.prog 77 #[.string a, .string b] w fun e w' => ∃ x y : Value, e = .returned (.tuple #[x, y, .bool (decide (NM.check (bs a) = 0 ∧ NM.check (bs b) = 0))]) ∧
      TRow w' w.heap.size x (revs (bs a)) ∧ TRow w' w.heap.size y (revs (bs b)) ∧ Touch [] w w' := by
  have HLA := Lib.hid (fun W => nlower_any W a ha)
  have HLB := Lib.hid (fun W => nlower_any W b hb)
  obtain ⟨p, hp⟩ : ∃ p, p = ofBs (NM.lower (bs a)) := ⟨_, rfl⟩
  obtain ⟨q, hq⟩ : ∃ q, q = ofBs (NM.lower (bs b)) := ⟨_, rfl⟩
  have hps : p.size ≤ 1099511627776 := by rw [hp, low_size]; exact ha
  have hqs : q.size ≤ 1099511627776 := by rw [hq, low_size]; exact hb
  have hpb : bs p = NM.lower (bs a) := by rw [hp, NM.bs_ofBs]
  have hqb : bs q = NM.lower (bs b) := by rw [hq, NM.bs_ofBs]
  rw [← hp] at HLA
  rw [← hq] at HLB
  have NLA := Lib.hid (fun W => nlabels_any W p hps)
  have NLB := Lib.hid (fun W => nlabels_any W q hqs)
  rw [hpb, NM.lower_check] at NLA
  rw [hqb, NM.lower_check] at NLB
  have L1 := (labelsOf_length (NM.lower (bs a))).2.1
  have L2 := (labelsOf_length (NM.lower (bs b))).2.1
  obtain ⟨c, hc⟩ : ∃ c, c = NM.check (bs a) := ⟨_, rfl⟩
  obtain ⟨d, hd⟩ : ∃ d, d = NM.check (bs b) := ⟨_, rfl⟩
  rw [← hc] at NLA
  rw [← hd] at NLB
  rw [← hc, ← hd]
  have HL := Lib.hid (And.intro L1 L2)
  clear L1 L2 hc hd hp hq hps hqs hpb hqb ha hb
  go_enter Try.func77, Try.ntmps77
  go_wp2_with fail
  refine (HLA.out _).mono ?_
  rintro e w1 ⟨rfl, T1⟩
  have HT1 := Lib.hid T1
  clear T1
  go_wp2_with fail
  refine (NLA.out _).mono ?_
  rintro e w2 ⟨x, rfl, hx, T2⟩
  have HX2 := Lib.hid (trow_base hx HT1.out.size)
  have HT2 := Lib.hid (HT1.out.trans T2 (by simp))
  clear T2 hx
  go_wp2_with fail
  refine (HLB.out _).mono ?_
  rintro e w3 ⟨rfl, T3⟩
  have HX3 := Lib.hid (trow_touch HX2.out T3 (by simp))
  have HT3 := Lib.hid (HT2.out.trans T3 (by simp))
  clear T3
  go_wp2_with fail
  refine (NLB.out _).mono ?_
  rintro e w4 ⟨y, rfl, hy, T4⟩
  have HXL := Lib.hid (show ∀ k, x.ownBlock = some k → k < w3.heap.size from fun k hk => (HX3.out.lt k hk).2)
  have HYL := Lib.hid (show ∀ k, y.ownBlock = some k → w3.heap.size ≤ k from fun k hk => (hy.lt k hk).1)
  have HX4 := Lib.hid (show TRow w4 w.heap.size x (labelsOf (NM.lower (bs a))) from trow_touch HX3.out T4 (by simp))
  have HY4 := Lib.hid (show TRow w4 w.heap.size y (labelsOf (NM.lower (bs b))) from trow_base hy HT3.out.size)
  have HT4 := Lib.hid (HT3.out.trans T4 (by simp))
  clear T4 hy
  go_wp2_with fail
  refine (nrev_any w4 _ x _ HX4.out (by have := HL.out; omega)).mono ?_
  rintro e w5 ⟨⟨r5, rfl⟩, hx5, T5⟩
  have hy5 : TRow w5 w.heap.size y (labelsOf (NM.lower (bs b))) := trow_touch HY4.out T5 (fun k hk hm => by
    have := HYL.out k hk
    have := HXL.out k (by simpa using hm)
    omega)
  have HX5 := Lib.hid hx5
  have HY5 := Lib.hid hy5
  have HT5 := Lib.hid (HT4.out.trans T5 (fun k hk => .inr (HX4.out.lt k (by simpa using hk)).1))
  clear hx5 hy5 T5
  go_wp2_with fail
  refine (nrev_any w5 _ y _ HY5.out (by have := HL.out; omega)).mono ?_
  rintro e w6 ⟨⟨r6, rfl⟩, hy6, T6⟩
  have HX6 := Lib.hid (show TRow w6 w.heap.size x (revs (bs a)) from trow_touch HX5.out T6 (fun k hk hm => by
    have := HXL.out k hk
    have := HYL.out k (by simpa using hm)
    omega))
  have HY6 := Lib.hid (show TRow w6 w.heap.size y (revs (bs b)) from hy6)
  have HT6 := Lib.hid (HT5.out.trans T6 (fun k hk => .inr (HY5.out.lt k (by simpa using hk)).1))
  clear hy6 T6
  by_cases h1 : c = 0
  · have e1 : (c == 0) = true := by simpa using h1
    by_cases h2 : d = 0
    · have e2 : (d == 0) = true := by simpa using h2
      have HD := Lib.hid (show decide (c = 0 ∧ d = 0) = true from decide_eq_true ⟨h1, h2⟩)
      clear h1 h2
      go_wp2_with fail
      go_returns
      exact ⟨x, y, by rw [HD.out]; rfl, HX6.out, HY6.out, HT6.out⟩
    · have e2 : (d == 0) = false := by simpa using h2
      have HD := Lib.hid (show decide (c = 0 ∧ d = 0) = false from decide_eq_false (fun h => h2 h.2))
      clear h1 h2
      go_wp2_with fail
      go_returns
      exact ⟨x, y, by rw [HD.out]; rfl, HX6.out, HY6.out, HT6.out⟩
  · have e1 : (c == 0) = false := by simpa using h1
    have HD := Lib.hid (show decide (c = 0 ∧ d = 0) = false from decide_eq_false (fun h => h1 h.1))
    clear h1
    go_wp2_with fail
    go_returns
    exact ⟨x, y, by rw [HD.out]; rfl, HX6.out, HY6.out, HT6.out⟩
/-- the texts at a place of two rows -/
theorem TRow.cellAt {w : World} {B : Nat} {v : Value} {l : List ByteArray} (h : TRow w B v l) {k : Nat} (hk : k < l.length) : ∃ g cap, v = .slice (some ⟨g, 0, none⟩) l.length cap ∧ w.cell? ⟨g, k, none⟩ = some (.string l[k]) ∧ g < w.heap.size := by
  obtain ⟨a, cap, rfl, _, _, hx⟩ := h.shape
  obtain ⟨g, rfl, _, h2, h3⟩ := hx k hk
  exact ⟨g, cap, rfl, h3, h2⟩
theorem depth_least (l : Bs) : -1 ≤ NM.depth l := by
  unfold NM.depth
  split <;> omega
/-- are the labels at a place the same? -/
def sameAt (X Y : List ByteArray) (k : Nat) : Bool := match X[k]?, Y[k]? with
  | some p, some q => decide (bs p = bs q)
  | _, _ => false
theorem same_go {X Y : List ByteArray} {k : Nat} (h : sameAt X Y k = true) : NM.common ((X.map bs).drop k) ((Y.map bs).drop k) = NM.common ((X.map bs).drop (k + 1)) ((Y.map bs).drop (k + 1)) + 1 ∧ k < X.length ∧ k < Y.length := by
  unfold sameAt at h
  split at h
  · rename_i p q hp hq
    have e : bs p = bs q := by simpa using h
    refine ⟨common_go (u := bs p) (by rw [List.getElem?_map, hp]; rfl) (by rw [List.getElem?_map, hq, e]; rfl), (List.getElem?_eq_some_iff.1 hp).1, (List.getElem?_eq_some_iff.1 hq).1⟩
  · cases h
theorem same_stop {X Y : List ByteArray} {k : Nat} (h : sameAt X Y k = false) : NM.common ((X.map bs).drop k) ((Y.map bs).drop k) = 0 := by
  unfold sameAt at h
  split at h
  · rename_i p q hp hq
    have e : bs p ≠ bs q := by simpa using h
    exact common_stop (u := bs p) (v := bs q) (by rw [List.getElem?_map, hp]; rfl) (by rw [List.getElem?_map, hq]; rfl) e
  · rename_i hno
    refine common_out ?_
    rw [List.length_map, List.length_map]
    by_cases h1 : k < X.length
    · by_cases h2 : k < Y.length
      · exact absurd (List.getElem?_eq_getElem h2) (fun e2 => hno _ _ (List.getElem?_eq_getElem h1) e2)
      · omega
    · omega
set_option maxRecDepth 10000 in
set_option maxHeartbeats 1000000 in
theorem nshared1_any (w : World) (k : Nat) (gx gy : Nat) (x y : Value) (X Y : List ByteArray) (B : Nat) (hx : TRow w B x X) (hy : TRow w B y Y) (cx : w.cell? ⟨gx, 0, none⟩ = some x) (cy : w.cell? ⟨gy, 0, none⟩ = some y) (hk : k ≤ 1000000) (hX : X.length ≤ 255) (hY : Y.length ≤ 255) :
    Calls Try.prog 78 #[.int .i64 (k : Int), .pointer (some ⟨gx, 0, none⟩), .pointer (some ⟨gy, 0, none⟩)] w fun e w' => e = .returned (.bool (sameAt X Y k)) ∧ Touch [] w w' := by
  by_cases h1 : k < X.length
  · by_cases h2 : k < Y.length
    · obtain ⟨g1, c1, rfl, d1, _⟩ := hx.cellAt h1
      obtain ⟨g2, c2, rfl, d2, _⟩ := hy.cellAt h2
      have i1 : (k : Int) < (X.length : Int) := by omega
      have i2 : (k : Int) < (Y.length : Int) := by omega
      obtain ⟨p, hp⟩ : ∃ p, p = X[k] := ⟨_, rfl⟩
      obtain ⟨q, hq⟩ : ∃ p, p = Y[k] := ⟨_, rfl⟩
      rw [← hp] at d1
      rw [← hq] at d2
      have hs : sameAt X Y k = decide (bs p = bs q) := by
        unfold sameAt
        rw [List.getElem?_eq_getElem h1, List.getElem?_eq_getElem h2, hp, hq]
      obtain ⟨n1, hn1⟩ : ∃ n, n = X.length := ⟨_, rfl⟩
      obtain ⟨n2, hn2⟩ : ∃ n, n = Y.length := ⟨_, rfl⟩
      rw [← hn1] at cx i1
      rw [← hn2] at cy i2
      rw [hs]
      have hi : k < n1 ∧ k < n2 := by omega
      obtain ⟨hi1, hi2⟩ := hi
      clear hs hx hy hp hq hn1 hn2 h1 h2 hX hY
      by_cases he : p = q
      · have e1 := str_eq he
        have HQ := Lib.hid (show decide (bs p = bs q) = true from decide_eq_true (by rw [he]))
        rw [HQ.out]
        clear he
        go_enter Try.func78, Try.ntmps78
        go_wp2_with fail
        go_quiet (fail)
        go_wp2_with fail
        go_ret
        exact ⟨rfl, Touch.drewN _ _ _⟩
      · have e1 := str_ne he
        have HQ := Lib.hid (show decide (bs p = bs q) = false from decide_eq_false (fun h => he (NM.bs_inj h)))
        rw [HQ.out]
        clear he
        go_enter Try.func78, Try.ntmps78
        go_wp2_with fail
        go_quiet (fail)
        go_wp2_with fail
        go_ret
        exact ⟨rfl, Touch.drewN _ _ _⟩
    · have hs : sameAt X Y k = false := by
        unfold sameAt
        rw [List.getElem?_eq_none (l := Y) (by omega)]
        cases X[k]? <;> rfl
      obtain ⟨a1, c1, rfl, _⟩ := hx.shape
      obtain ⟨a2, c2, rfl, _⟩ := hy.shape
      obtain ⟨n1, hn1⟩ : ∃ n, n = X.length := ⟨_, rfl⟩
      obtain ⟨n2, hn2⟩ : ∃ n, n = Y.length := ⟨_, rfl⟩
      rw [← hn1] at cx h1
      rw [← hn2] at cy h2
      have i1 : (k : Int) < (n1 : Int) := by omega
      have i2 : decide ((k : Int) < (n2 : Int)) = false := decide_eq_false (by omega)
      have i3 : decide (k < n2) = false := decide_eq_false (by omega)
      have i4 : (n2 : Int) ≤ (k : Int) := by omega
      have i5 : n2 ≤ k := by omega
      rw [hs]
      clear hs hx hy h2 hX hY hn1 hn2
      go_enter Try.func78, Try.ntmps78
      go_wp2_with fail
      go_quiet (fail)
      go_wp2_with fail
      go_ret
      exact ⟨rfl, Touch.drewN _ _ _⟩
  · have hs : sameAt X Y k = false := by
      unfold sameAt
      rw [List.getElem?_eq_none (l := X) (by omega)]
    obtain ⟨a1, c1, rfl, _⟩ := hx.shape
    obtain ⟨n1, hn1⟩ : ∃ n, n = X.length := ⟨_, rfl⟩
    rw [← hn1] at cx h1
    have i2 : decide ((k : Int) < (n1 : Int)) = false := decide_eq_false (by omega)
    have i3 : decide (k < n1) = false := decide_eq_false (by omega)
    have i4 : (n1 : Int) ≤ (k : Int) := by omega
    have i5 : n1 ≤ k := by omega
    rw [hs]
    clear hs hx hy h1 hX hY hn1
    go_enter Try.func78, Try.ntmps78
    go_wp2_with fail
    go_quiet (fail)
    go_wp2_with fail
    go_ret
    exact ⟨rfl, Touch.drewN _ _ _⟩
set_option maxRecDepth 10000 in
set_option maxHeartbeats 1000000 in
theorem nshared_any (w : World) (a b : ByteArray) (ha : a.size ≤ 1099511627776) (hb : b.size ≤ 1099511627776) : Calls Try.prog 66 #[.string a, .string b] w fun e w' => e = .returned (.int .i64 (NM.shared (bs a) (bs b))) ∧ Touch [] w w' := by
  have HTW := Lib.hid (ntwo_any w a b ha hb)
  have hsh := shared_eq (bs a) (bs b)
  obtain ⟨R, hR⟩ : ∃ R, R = NM.shared (bs a) (bs b) := ⟨_, rfl⟩
  rw [← hR] at hsh ⊢
  have hX := revs_length (bs a)
  have hY := revs_length (bs b)
  have hXl := @revs_lows (bs a)
  have hYl := @revs_lows (bs b)
  obtain ⟨X, hXX⟩ : ∃ X, X = revs (bs a) := ⟨_, rfl⟩
  obtain ⟨Y, hYY⟩ : ∃ X, X = revs (bs b) := ⟨_, rfl⟩
  rw [← hXX] at HTW hX hXl
  rw [← hYY] at HTW hY hYl
  obtain ⟨g, hg⟩ : ∃ g, g = decide (NM.check (bs a) = 0 ∧ NM.check (bs b) = 0) := ⟨_, rfl⟩
  rw [← hg] at HTW
  have HG := Lib.hid (show (g = true → R = (NM.common (X.map bs) (Y.map bs) : Int)) ∧ (g = false → R = -1) from by
    refine ⟨fun h => ?_, fun h => ?_⟩
    · have h2 : NM.check (bs a) = 0 ∧ NM.check (bs b) = 0 := by rw [hg] at h; simpa using h
      rw [hsh.1 h2.1 h2.2, hXl h2.1, hYl h2.2]
    · have h2 : ¬ (NM.check (bs a) = 0 ∧ NM.check (bs b) = 0) := by rw [hg] at h; simpa using h
      exact hsh.2 h2)
  have HXY := Lib.hid (And.intro hX hY)
  clear hR hsh hX hY hXl hYl hXX hYY hg ha hb
  go_enter Try.func66, Try.ntmps66
  go_wp2_with fail
  refine HTW.out.mono ?_
  rintro e w1 ⟨x, y, rfl, hx, hy, T1⟩
  obtain ⟨ax, cx, rfl, _⟩ := hx.shape
  obtain ⟨ay, cy, rfl, _⟩ := hy.shape
  have HX := Lib.hid (And.intro hx (And.intro hy T1))
  clear hx hy T1
  cases g with
  | false =>
    have HR := Lib.hid (HG.out.2 rfl)
    go_wp2_with fail
    go_ret
    exact ⟨by rw [HR.out]; rfl, (HX.out.2.2.alloc _).alloc _⟩
  | true =>
    have HR := Lib.hid (HG.out.1 rfl)
    obtain ⟨w2, hw2⟩ : ∃ W, W = (w1.alloc (.cells #[.slice ax X.length cx] 47)).alloc (.cells #[.slice ay Y.length cy] 47) := ⟨_, rfl⟩
    have HB := Lib.hid (show Blk w2 w1.heap.size 47 #[.slice ax X.length cx] ∧ Blk w2 (w1.heap.size + 1) 47 #[.slice ay Y.length cy] ∧ Touch [] w1 w2 from by
      rw [hw2]
      exact ⟨(Blk.new w1 _ _).alloc _, Blk.new' _ _ _ (by simp), ((Touch.refl [] w1).alloc _).alloc _⟩)
    have HW2 := Lib.hid hw2
    have HS := Lib.hid (fun W (t : Touch [] w2 W) (k : Nat) (hk : k ≤ 1000000) => nshared1_any W k w1.heap.size (w1.heap.size + 1) _ _ X Y w.heap.size (trow_touch HX.out.1 (HB.out.2.2.trans t (by simp)) (by simp)) (trow_touch HX.out.2.1 (HB.out.2.2.trans t (by simp)) (by simp)) ((t.blk HB.out.1 (by simp)).cell 0) ((t.blk HB.out.2.1 (by simp)).cell 0) hk HXY.out.1 HXY.out.2)
    clear hw2
    go_wp2_with fail
    rw [← HW2.out]
    go_loopw [9] (fun v wr => ∃ k : Nat, v = .int .i64 (k : Int) ∧ k ≤ 256 ∧ k ≤ X.length ∧ R = (k : Int) + (NM.common ((X.map bs).drop k) ((Y.map bs).drop k) : Int) ∧ Touch [] w2 wr) (fun v _ => X.length - (intOf v).toNat)
    case atStart => exact ⟨0, rfl, by omega, Nat.zero_le _, by rw [HR.out]; simp, Touch.refl _ _⟩
    case round =>
      obtain ⟨k, rfl, hk, hkX, hr, hT⟩ := hrel
      obtain ⟨wo, rfl⟩ : ∃ wo, wo = wr := ⟨_, rfl⟩
      have HT := Lib.hid hT
      have HK := Lib.hid (And.intro hk (And.intro hkX hr))
      have HS1 := Lib.hid (HS.out wo hT k (by omega))
      have hwr : wrap64 ((k : Int) + 1) = (k : Int) + 1 := IntWalk.wrap64_in _ (by omega)
      obtain ⟨s, hs⟩ : ∃ s, s = sameAt X Y k := ⟨_, rfl⟩
      rw [← hs] at HS1
      have HSS := Lib.hid hs.symm
      clear hk hkX hr hT hs
      go_wp2_with fail
      refine HS1.out.mono ?_
      rintro e w3 ⟨rfl, T3⟩
      have HT3 := Lib.hid (HT.out.trans T3 (by simp))
      clear T3
      cases s with
      | true =>
        obtain ⟨h1, h2, h3⟩ := same_go HSS.out
        have HN := Lib.hid (And.intro h1 h2)
        clear h1 h2 h3
        go_wp2_with fail
        go_roundw
        case rel => exact ⟨k + 1, by rw [hwr]; rfl, by have := HN.out.2; have := HXY.out.1; omega, HN.out.2, by rw [HK.out.2.2, HN.out.1]; push_cast; omega, HT3.out⟩
        case measure => exact lt_sub_of_u (x := k + 1) (i := k) (by rw [hwr]; rfl) rfl (by have := HN.out.2; omega)
      | false =>
        have h1 := same_stop HSS.out
        have HN := Lib.hid h1
        clear h1
        go_wp2_with fail
        go_ret
        exact ⟨by rw [HK.out.2.2, HN.out]; simp, (HX.out.2.2.trans HB.out.2.2 (by simp)).trans HT3.out (by simp)⟩
set_option maxRecDepth 10000 in
theorem nunder_any (w : World) (a z : ByteArray) (ha : a.size ≤ 1099511627776) (hz : z.size ≤ 1099511627776) : Calls Try.prog 49 #[.string a, .string z] w fun e w' => e = .returned (.bool (NM.under (bs a) (bs z))) ∧ Touch [] w w' := by
  have HD := Lib.hid (fun W => ndepth_any W z hz)
  have HS := Lib.hid (fun W => nshared_any W a z ha hz)
  have hdr := depth_least (bs z)
  have hu : NM.under (bs a) (bs z) = decide (0 ≤ NM.depth (bs z) ∧ NM.shared (bs a) (bs z) = NM.depth (bs z)) := by
    unfold NM.under
    exact decide_eq_decide.2 (by omega)
  obtain ⟨d, hd⟩ : ∃ d, d = NM.depth (bs z) := ⟨_, rfl⟩
  obtain ⟨s, hs⟩ : ∃ d, d = NM.shared (bs a) (bs z) := ⟨_, rfl⟩
  rw [hu, ← hd, ← hs]
  rw [← hd] at HD
  rw [← hs] at HS
  clear hdr hu hd hs ha hz
  by_cases h1 : 0 ≤ d
  · by_cases h2 : s = d
    · have e2 : (s == d) = true := by simpa using h2
      have HQ := Lib.hid (show decide (0 ≤ d ∧ s = d) = true from decide_eq_true ⟨h1, h2⟩)
      rw [HQ.out]
      clear h2
      go_enter Try.func49, Try.ntmps49
      go_wp2_with fail
      refine (HD.out _).mono ?_
      rintro e w1 ⟨rfl, T1⟩
      go_wp2_with fail
      refine (HS.out _).mono ?_
      rintro e w2 ⟨rfl, T2⟩
      go_wp2_with fail
      go_ret
      exact ⟨rfl, T1.trans T2 (by simp)⟩
    · have e2 : (s == d) = false := by simpa using h2
      have HQ := Lib.hid (show decide (0 ≤ d ∧ s = d) = false from decide_eq_false (fun h => h2 h.2))
      rw [HQ.out]
      clear h2
      go_enter Try.func49, Try.ntmps49
      go_wp2_with fail
      refine (HD.out _).mono ?_
      rintro e w1 ⟨rfl, T1⟩
      go_wp2_with fail
      refine (HS.out _).mono ?_
      rintro e w2 ⟨rfl, T2⟩
      go_wp2_with fail
      go_ret
      exact ⟨rfl, T1.trans T2 (by simp)⟩
  · have HQ := Lib.hid (show decide (0 ≤ d ∧ s = d) = false from decide_eq_false (fun h => h1 h.1))
    have e3 : d < 0 := by omega
    have e4 : decide (0 ≤ d) = false := decide_eq_false h1
    rw [HQ.out]
    clear h1
    go_enter Try.func49, Try.ntmps49
    go_wp2_with fail
    refine (HD.out _).mono ?_
    rintro e w1 ⟨rfl, T1⟩
    go_wp2_with fail
    go_ret
    exact ⟨rfl, T1⟩
end Go.Proofs.Ytibbfihnhlgkeaa

/- maps.Values over the cache's map: the iterator. -/
namespace Go.Proofs.Ytibbfihnhlgkeaa
open Go.RowKit Go.Maps Go.WideMaps Go.Shelf
open NM (Bs bs ofBs)
open CM (It C)
attribute [local go_sem] Oper.semAt_some

def mkP (c : Option Nat) : Value := .pointer (c.map (fun g => ⟨g, 0, none⟩))
theorem RP_mk {v : Value} {y : DataW Unit × List MemPlace} (h : RP v = some y) : ∃ c, v = mkP c := by
  unfold RP at h
  split at h
  · exact ⟨none, rfl⟩
  · rename_i g
    exact ⟨some g, rfl⟩
  · cases h
theorem RP_yd {c : Option Nat} {g : Nat} {ps : List MemPlace} (h : RP (mkP c) = some (pd g, ps)) : c = some g := by
  have := RP_inv h
  unfold mkP at this
  cases c with
  | none => simp at this
  | some q =>
    simp at this
    rw [this]
/-- what has come, as keys and blocks -/
def Came (l : List It) (ps : List (List UInt8 × Nat)) : Prop := ∀ p ∈ ps, ∃ x ∈ l, x.key = ofBs p.1 ∧ x.g = p.2
theorem came_perm {l : List It} (hk : (l.map It.key).Nodup) {Dm : DataW Unit} (hv : ViewP Dm l) {ps : List (List UInt8 × Nat)} (hc : Came l ps) (hC : Collected Dm (fun _ => false) (ps.map (·.1))) : (ps.map (·.2)).Perm (l.map It.g) := by
  have hkey : (ps.map (fun p => ofBs p.1)).Perm (l.map It.key) := by
    refine (List.perm_ext_iff_of_nodup ?_ hk).2 (fun s => ?_)
    · have h1 := hC.1
      have h2 : ps.map (fun p => ofBs p.1) = (ps.map (·.1)).map ofBs := by rw [List.map_map]; rfl
      rw [h2]
      exact List.Pairwise.map ofBs (fun a b hab e => hab (by have := congrArg bs e; rwa [NM.bs_ofBs, NM.bs_ofBs] at this)) h1
    · constructor
      · intro hs
        obtain ⟨p, hp, rfl⟩ := List.mem_map.1 hs
        obtain ⟨x, hx, e, _⟩ := hc p hp
        rw [← e]
        exact List.mem_map_of_mem hx
      · intro hs
        obtain ⟨x, hx, rfl⟩ := List.mem_map.1 hs
        have h1 := (hC.2 (bs x.key)).2 ⟨by rw [hv.has, CM.find_of hk hx]; rfl, rfl⟩
        obtain ⟨p, hp, e⟩ := List.mem_map.1 h1
        refine List.mem_map.2 ⟨p, hp, ?_⟩
        show ofBs p.1 = x.key
        rw [show p.1 = bs x.key from e, NM.ofBs_bs]
  have hmap : ∀ L : List It, (∀ x ∈ L, x ∈ l) → L.map It.g = (L.map It.key).map (fun k => ((CM.find l k).map It.g).getD 0) := by
    intro L hL
    rw [List.map_map]
    refine List.map_congr_left (fun x hx => ?_)
    simp only [Function.comp]
    rw [CM.find_of hk (hL x hx)]
    rfl
  have hps : ps.map (·.2) = (ps.map (fun p => ofBs p.1)).map (fun k => ((CM.find l k).map It.g).getD 0) := by
    rw [List.map_map]
    refine List.map_congr_left (fun p hp => ?_)
    obtain ⟨x, hx, e, e2⟩ := hc p hp
    simp only [Function.comp]
    rw [← e, CM.find_of hk hx]
    exact e2.symm
  rw [hmap l (fun _ h => h), hps]
  exact hkey.map _
set_option maxRecDepth 100000 in
set_option maxHeartbeats 1000000 in
theorem vals1_any (l Bm b nn : Nat) (L : List It) (hkn : (L.map It.key).Nodup) (D0 : DataW Unit) (hV : ViewP D0 L) (J : List Nat → World → Prop)
    (hY : ∀ m pre x W, J pre W → pre.length < L.length → YieldAt Fence.wide m Try.prog l #[.pointer (some ⟨x, 0, none⟩)] W fun e W' => e = .returned (.bool true) ∧ J (pre ++ [x]) W' ∧ KeepsWalks W W')
    (W : World) (hJ : AbidesFrom W.heap.size J) (hm : W.cell? ⟨Bm, 0, none⟩ = some (.map (some b))) (hown : W.ownsMap Try.prog 9 RP b nn D0) (h0 : J [] W) :
    Calls Try.prog 64 #[.func (.yield l) #[] #[], .pointer (some ⟨Bm, 0, none⟩)] W fun e W' => (∃ v, e = .returned v) ∧ ∃ xs, xs.Perm (L.map It.g) ∧ J xs W' := by
  refine (callsIn_wide (n := 9)).1 ?_
  refine callsIn_of_wp Try.func64 rfl trivial ?_ rfl
  simp only [Try.ntmps64, List.size_toArray, List.length_cons, List.length_nil, Nat.reduceAdd, Nat.reduceSub, Array.replicate_succ, Array.replicate_zero, List.push_toArray, List.append_toArray, List.nil_append, List.cons_append]
  gi_wp2_with (first
    | (gi_at_range; refine wpListIn_range_own _ rfl _ 57 rfl 9 74 kstr Try.underlying57 _ b nn _ rfl hown ?_; intro w0 hrg0 hg0 hs0)
    | gi_in)
  go_frame
  gi_loopw [4] (fun _ wr => ∃ (left : Lit → Bool) (cnt : Nat) (ps : List (List UInt8 × Nat)), wr.ranges Try.prog 9 RP b W.heap.size nn D0 left cnt ∧ ps.length + cnt ≤ L.length ∧ Collected D0 left (ps.map (·.1)) ∧ Came L ps ∧ J (ps.map (·.2)) wr)
    (fun _ wr => wr.rangeLeft b W.heap.size)
  case atStart =>
    refine ⟨_, _, [], hrg0, ?_, Collected.start D0, ?_, hJ [] W w0 none h0 hg0 (fun r e => by cases e)⟩
    · rw [hV.size]; simp
    · intro p hp; cases hp
  case round =>
    obtain ⟨left, cnt, ps, hrg, hcs, hC, hCm, hJs⟩ := hrel
    gi_wp2_with (first
      | (gi_at_next; refine wpListIn_next_ranges _ rfl _ rfl 9 kstr RP encStr mkP (fun key kl hk => by obtain ⟨x, hx, _⟩ := Maps.keyOf_str Try.underlying9 hk; exact ⟨x, hx⟩) (fun v y hv => RP_mk hv) b W.heap.size nn _ _ _ rfl hrg ?_ ?_)
      | gi_in)
    · intro hc0 hl0
      have hlf : left = fun _ => false := funext hl0
      have hP := came_perm hkn hV hCm (by rw [← hlf]; exact hC)
      clear hC
      gi_wp2
      go_end0
      exact ⟨⟨_, rfl⟩, _, hP, hJs⟩
    · intro x c kl yd yp w2 cnt2 hkey hlk hv hat hrg2 hlt hg2 hs2 hen
      obtain ⟨x', ex, rfl, _⟩ := Maps.keyOf_str Try.underlying9 hkey
      obtain rfl : x = x' := encStr_inj ex
      have hhas : Maps.has D0 (.string x) = true := has_true_of_atKey hat
      obtain ⟨it, hit⟩ : ∃ it, CM.find L (ofBs x) = some it := by
        have := hV.has (ofBs x)
        rw [NM.bs_ofBs, hhas] at this
        exact Option.isSome_iff_exists.1 this.symm
      have hyd : yd = pd it.g := by
        have h1 := hV.at_ (ofBs x) it (.lit (.bool false)) hit
        rw [NM.bs_ofBs, hat] at h1
        exact h1
      subst hyd
      obtain rfl := RP_yd hv
      have hJ2 : J (ps.map (·.2)) w2 := hJ _ _ w2 (some W.heap.size) hJs hg2 (fun r e => by cases e; exact ⟨Nat.le_refl _, hrg.iter_walk⟩)
      obtain ⟨fn, tmps, assign, body, hy, hR⟩ := hY 8 (ps.map (·.2)) it.g w2 hJ2 (by simp; omega)
      have hC2 : Collected D0 (fun z => left z && !z.sameKey (.string x)) ((ps ++ [(x, it.g)]).map (·.1)) := by simpa using hC.step hlk hat
      have hCm2 : Came L (ps ++ [(x, it.g)]) := fun p hp => (List.mem_append.1 hp).elim (hCm p) (fun e => by
        simp only [List.mem_cons, List.not_mem_nil, or_false] at e
        subst e
        exact ⟨it, (CM.find_some hit).1, (CM.find_some hit).2, rfl⟩)
      have hy : (Instr.yield l #[mkP (some it.g)]).run Try.prog w2 = .ok (.round l fn tmps assign body) w2 := hy
      clear hs2
      gi_wp2
      refine hR.mono ?_
      rintro e W3 ⟨rfl, hJ3, hk3⟩
      gi_wp2
      have hrg3 := hrg2.of_walks hk3
      go_roundw
      case rel => exact ⟨_, cnt2, ps ++ [(x, it.g)], hrg3, by simp; omega, hC2, hCm2, by simpa using hJ3⟩
      case measure => rw [hrg3.left_eq, hrg.left_eq]; exact hlt
set_option maxRecDepth 100000 in
set_option maxHeartbeats 1000000 in
theorem vals1_nil (l Bm : Nat) (J : List Nat → World → Prop) (W : World) (hJ : AbidesFrom W.heap.size J) (hm : W.cell? ⟨Bm, 0, none⟩ = some (.map none)) (h0 : J [] W) :
    Calls Try.prog 64 #[.func (.yield l) #[] #[], .pointer (some ⟨Bm, 0, none⟩)] W fun e W' => (∃ v, e = .returned v) ∧ J [] W' := by
  refine (callsIn_wide (n := 9)).1 ?_
  refine callsIn_of_wp Try.func64 rfl trivial ?_ rfl
  simp only [Try.ntmps64, List.size_toArray, List.length_cons, List.length_nil, Nat.reduceAdd, Nat.reduceSub, Array.replicate_succ, Array.replicate_zero, List.push_toArray, List.append_toArray, List.nil_append, List.cons_append]
  have hrg := run_range_nilMap (P := Try.prog) W 57 9 74 Try.underlying57
  have hnx : ∀ ty, (Instr.next (.pointer (some ⟨W.heap.size, 0, none⟩)) false ty).run Try.prog (W.alloc (.mapIter none 0 #[] 0)) = _ := fun ty => run_next_nilMap _ ty 0 0 #[]
  gi_wp2
  refine wpIn_loop_rounds 1 ?_
  rw [roundsIn_succ]
  gi_wp2
  go_end0
  exact ⟨⟨_, rfl⟩, hJ [] W _ none h0 (World.grownBy_alloc W _ none) (fun r e => by cases e)⟩
/-- the iterator over the cache's map, whatever it is -/
def Iters (w : World) (Bm : Nat) (L : List It) : Prop := ∀ (l : Nat) (J : List Nat → World → Prop) (W : World), Touch [] w W →
  (∀ m pre x W, J pre W → pre.length < L.length → YieldAt Fence.wide m Try.prog l #[.pointer (some ⟨x, 0, none⟩)] W fun e W' => e = .returned (.bool true) ∧ J (pre ++ [x]) W' ∧ KeepsWalks W W') →
  AbidesFrom W.heap.size J → J [] W →
  Calls Try.prog 64 #[.func (.yield l) #[] #[], .pointer (some ⟨Bm, 0, none⟩)] W fun e W' => (∃ v, e = .returned v) ∧ ∃ xs, xs.Perm (L.map It.g) ∧ J xs W'
theorem iters_of {w : World} {Bm : Nat} {mo : Option Nat} {L : List It} (hkn : (L.map It.key).Nodup) (hm : Blk w Bm 57 #[.map mo]) (h : MapP w mo L) : Iters w Bm L := by
  intro l J W T hY hJ h0
  have hc : W.cell? ⟨Bm, 0, none⟩ = some (.map mo) := (T.blk hm (by simp)).cell 0
  rcases h.touch T (by simp) with ⟨rfl, rfl⟩ | ⟨mb, Dm, rfl, h1, h2⟩
  · refine (vals1_nil l Bm J W hJ hc h0).mono ?_
    rintro e W' ⟨h3, h4⟩
    exact ⟨h3, [], List.Perm.refl _, h4⟩
  · exact vals1_any l Bm mb L.length L hkn Dm h2 J hY W hJ hc h1 h0
end Go.Proofs.Ytibbfihnhlgkeaa

/- maps.Values, slices.AppendSeq, slices.Collect over the cache's map. -/
namespace Go.Proofs.Ytibbfihnhlgkeaa
open Go.RowKit Go.Maps Go.WideMaps Go.Shelf
open NM (Bs bs ofBs)
open CM (It C)
attribute [local go_sem] Oper.semAt_some

def ptrG (g : Nat) : Value := .pointer (some ⟨g, 0, none⟩)
theorem values_any (w : World) (mo : Option Nat) : Calls Try.prog 48 #[.map mo] w fun e w' =>
    e = .returned (.func (.func 64) #[] #[.pointer (some ⟨w.heap.size, 0, none⟩)]) ∧ w' = w.alloc (.cells #[.map mo] 57) := by
  go_enter Try.func48, Try.ntmps48
  go_wp2
  go_ret
  exact ⟨rfl, rfl⟩
/-- a row of pointers -/
def PRow (w : World) (B : Nat) (v : Value) (gs : List Nat) : Prop := w.ownsRow B 74 1 v gs.length (gs.map ptrG)
theorem prow_not_walk {w : World} {B : Nat} {v : Value} {gs : List Nat} (h : PRow w B v gs) {r : Nat} {o : Obj} (hr : w.heap[r]? = some o) (ho : o.isWalk = true) : v.ownBlock ≠ some r := by
  intro e
  rcases h.2 with ⟨e2, _⟩ | ⟨g, cap, cur, e2, _, hg, _⟩
  · rw [e2] at e; cases e
  · rw [e2] at e
    injection e with e
    subst e
    rw [hg] at hr
    injection hr with hr
    subst hr
    cases ho
/-- what an iterator's step may turn -/
theorem Touch.of_walk {W W' : World} {row : Option Nat} (hg : W.grownBy W' row) : Touch row.toList W W' := Touch.of_grown hg
set_option maxRecDepth 10000 in
set_option maxHeartbeats 4000000 in
theorem appseq_any (w : World) (Bm : Nat) (L : List It) (hit : Iters w Bm L) (hL : L.length ≤ 1000000) :
    Calls Try.prog 63 #[.slice none 0 0, .func (.func 64) #[] #[.pointer (some ⟨Bm, 0, none⟩)]] w fun e w' =>
      ∃ v gs, e = .returned v ∧ gs.Perm (L.map It.g) ∧ PRow w' w.heap.size v gs ∧ Touch [] w w' := by
  refine (callsIn_wide (n := 11)).1 ?_
  refine callsIn_of_wp_marks Try.func63 rfl trivial ?_ rfl
  simp only [Try.ntmps63, List.size_toArray, List.length_cons, List.length_nil, Nat.reduceAdd, Nat.reduceSub, Array.replicate_succ, Array.replicate_zero, List.push_toArray, List.append_toArray, List.nil_append, List.cons_append]
  gi_wp2
  obtain ⟨W0, hW0⟩ : ∃ W0, W0 = w.alloc (.cells #[.slice none 0 0] 58) := ⟨_, rfl⟩
  have hs0 : W0.heap.size = w.heap.size + 1 := by rw [hW0]; simp
  have hT0 : Touch [] w W0 := by rw [hW0]; exact (Touch.refl [] w).alloc _
  have hO0 : Blk W0 w.heap.size 58 #[.slice none 0 0] := by rw [hW0]; exact Blk.new w _ _
  rw [← hW0]
  clear hW0
  refine range_out 64 _ rfl (enters_of Try.func64 (by kernel_rfl) rfl) (by omega) ?_
  intro fn rec hrec
  obtain ⟨W1, hW1⟩ : ∃ W1, W1 = (W0.alloc (.deferred (some []))).alloc (.loop (rec .ready none)) := ⟨_, rfl⟩
  have hs1 : W1.heap.size = w.heap.size + 3 := by rw [hW1]; simp; omega
  have hT1 : Touch [] w W1 := by rw [hW1]; exact (hT0.alloc _).alloc _
  have hO1 : Blk W1 w.heap.size 58 #[.slice none 0 0] := by rw [hW1]; exact (hO0.alloc _).alloc _
  have hL1 : W1.heap[W0.heap.size + 1]? = some (.loop (rec .ready none)) := by
    rw [hW1]; have := World.alloc_heap_new (W0.alloc (.deferred (some []))) (.loop (rec .ready none)); rwa [World.size_alloc] at this
  have hD1 : W1.heap[W0.heap.size]? = some (.deferred (some [])) := by
    rw [hW1]; exact (heap_old _ _ (by simp)).trans (World.alloc_heap_new W0 _)
  rw [← hW1]
  clear hW1 hO0
  have hmain := hit (W0.heap.size + 1)
    (fun pre W => (∃ v, Blk W w.heap.size 58 #[v] ∧ PRow W (w.heap.size + 3) v pre) ∧ W.heap[W0.heap.size + 1]? = some (.loop (rec .ready none)) ∧ W.heap[W0.heap.size]? = some (.deferred (some [])) ∧ Touch [] w W ∧ w.heap.size + 3 ≤ W.heap.size) W1 hT1 ?yield ?stab
    ⟨⟨_, hO1, World.ownsRow_nil _ _ _ _⟩, hL1, hD1, hT1, by omega⟩
  case stab =>
    rintro pre W W' row ⟨⟨v, h1, h2⟩, h3, h4, h5, h6⟩ hg hrow
    have T := Touch.of_grown hg
    have hn : ∀ (k : Nat) (o : Obj), W.heap[k]? = some o → o.isWalk = false → k ∉ row.toList := fun k o hk ho hm => by
      rw [Option.mem_toList] at hm
      obtain ⟨_, o2, e1, e2⟩ := hrow k hm
      rw [hk] at e1
      cases e1
      rw [ho] at e2
      cases e2
    refine ⟨⟨v, T.blk h1 (hn _ _ h1 rfl), trow_touch h2 T (fun k hk hm => ?_)⟩, T.heap h3 (hn _ _ h3 rfl), T.heap h4 (hn _ _ h4 rfl), h5.trans T (fun k hk => .inr ?_), Nat.le_trans h6 T.size⟩
    · rw [Option.mem_toList] at hm
      obtain ⟨_, o2, e1, e2⟩ := hrow k hm
      exact prow_not_walk h2 e1 e2 hk
    · rw [Option.mem_toList] at hk
      have := (hrow k hk).1
      omega
  case yield =>
    rintro m pre x W ⟨⟨v, h1, h2⟩, h3, h4, h5, h6⟩ hlen
    have hy := run_yield (P := Try.prog) (args := #[.pointer (some ⟨x, 0, none⟩)]) h3 (by rw [hrec]; rfl)
    rw [hrec] at hy
    refine ⟨fn, _, _, _, hy, roundIn_of_wpIn trivial ?_⟩
    clear hy
    gi_wp2
    refine ⟨W.putObj (W0.heap.size + 1) (.loop { rec .ready none with state := .busy }), run_beginRound h3 (by rw [hrec]), ?_⟩
    obtain ⟨Wc, hWc⟩ : ∃ Wc, Wc = W.putObj (W0.heap.size + 1) (.loop { rec .ready none with state := .busy }) := ⟨_, rfl⟩
    have tc : Touch [W0.heap.size + 1] W Wc := by rw [hWc]; exact putObj_touch _ _ _
    have hLc : Wc.heap[W0.heap.size + 1]? = some (.loop { rec .ready none with state := .busy }) := by rw [hWc]; exact World.putObj_heap_same (lt_of_heap h3)
    rw [← hWc]
    clear hWc
    have hOc := tc.blk h1 (by simp; omega)
    have hRc : PRow Wc (w.heap.size + 3) v pre := trow_low h2 tc (by simp; omega)
    have hsc := tc.size
    have kc : Wc.cell? ⟨w.heap.size, 0, none⟩ = some v := hOc.cell 0
    have hrow : ∀ k, v.ownBlock = some k → w.heap.size + 3 ≤ k ∧ k < Wc.heap.size := hRc.lt
    have HR := Lib.hid hRc
    have HROW := Lib.hid hrow
    have H2 := Lib.hid h2
    have H1 := Lib.hid h1
    have H3 := Lib.hid h3
    have H4 := Lib.hid h4
    have HLC := Lib.hid hLc
    have HREC := Lib.hid hrec
    have HS0 := Lib.hid hs0
    have HLEN := Lib.hid hlen
    have HCO := Lib.hid hL
    obtain ⟨i0, hi, hz0, hz1, hz2⟩ := info_parts infoPtr
    have HI := Lib.hid (And.intro hi (And.intro hz0 (And.intro hz1 hz2)))
    clear hRc hrow h2 h1 h3 h4 hLc hlen hL hi hz0 hz1 hz2 hrec hs0
    gi_wp2_with (gi_at_builtin; refine wpListIn_append_own _ rfl (.tmp 8) (.tmp 10) 58 rfl (w.heap.size + 3) 74 i0 _ 1 8 Try.underlying58 HI.out.1 HI.out.2.1 HI.out.2.2.1 HI.out.2.2.2 rfl (by decide) v pre.length (pre.map ptrG) rfl (HR.out.alloc _) ⟨Wc.heap.size, 0, none⟩ 1 1 [ptrG x] rfl rfl (cell_one_new _ _ _) (by simp [ptrG, Value.oneCell']) (by unfold maxLen; have := HLEN.out; have := HCO.out; omega) (by have := HLEN.out; have := HCO.out; omega) (by simp; omega) ?_; intro v' w1 hown' hgrow _; obtain ⟨g', cap', rfl⟩ := ownsRow_succ hown'; have t1 := Touch.of_grown hgrow; have hO1' := t1.blk (hOc.alloc _) (by intro hm; have := HROW.out w.heap.size (by simpa using hm); omega); have k1 : w1.cell? ⟨w.heap.size, 0, none⟩ = some v := hO1'.cell 0; have k2 : w1.frozen? ⟨w.heap.size, 0, none⟩ = false := hO1'.frozen 0)
    have hs0 := HS0.out
    have t3 : Touch (w.heap.size :: v.ownBlock.toList) Wc (w1.setCell ⟨w.heap.size, 0, none⟩ (.slice (some ⟨g', 0, none⟩) (pre.length + 1) cap')) :=
      (((Touch.refl _ Wc).alloc _).trans (t1.mono (S' := w.heap.size :: v.ownBlock.toList) (fun k hk => .inl (by simp [hk]))) (fun k hk => .inl hk)).setCell _ _ (.inl (by simp))
    have hL3 := t3.heap HLC.out (by
      intro hm
      rcases List.mem_cons.1 hm with h | h
      · omega
      · have := HROW.out _ (by simpa using h); omega)
    have hR3 : PRow (w1.setCell ⟨w.heap.size, 0, none⟩ (.slice (some ⟨g', 0, none⟩) (pre.length + 1) cap')) (w.heap.size + 3) (.slice (some ⟨g', 0, none⟩) (pre.length + 1) cap') (pre ++ [x]) := by
      have : PRow w1 (w.heap.size + 3) (.slice (some ⟨g', 0, none⟩) (pre.length + 1) cap') (pre ++ [x]) := by
        unfold PRow
        rw [List.map_append, List.length_append]
        exact hown'
      exact trow_low this ((Touch.refl [w.heap.size] w1).setCell _ _ (.inl (by simp))) (by simp)
    have hO3 := hO1'.set_ 0 (.slice (some ⟨g', 0, none⟩) (pre.length + 1) cap')
    have tf : ∀ o, Touch (w.heap.size :: (W0.heap.size + 1) :: v.ownBlock.toList) W ((w1.setCell ⟨w.heap.size, 0, none⟩ (.slice (some ⟨g', 0, none⟩) (pre.length + 1) cap')).putObj (W0.heap.size + 1) o) := fun o =>
      ((tc.mono (S' := w.heap.size :: (W0.heap.size + 1) :: v.ownBlock.toList) (fun k hk => .inl (by simp at hk; simp [hk]))).trans t3 (fun k hk => .inl (by rcases List.mem_cons.1 hk with h | h <;> simp [h]))).trans (putObj_touch _ _ _) (fun k hk => .inl (by simp at hk; simp [hk]))
    have hrec := HREC.out
    have hend := run_endRound (P := Try.prog) none hL3
    refine ⟨_, _, hend, rfl, ?_⟩
    have e1 : ({ { rec .ready none with state := .busy } with state := if (none : Option Code).isNone then LoopState.ready else LoopState.done, pending := none } : Loop) = rec .ready none := by rw [hrec]; rfl
    rw [e1]
    have hmem : ∀ k, k < w.heap.size + 2 → k ≠ w.heap.size → k ∉ w.heap.size :: (W0.heap.size + 1) :: v.ownBlock.toList := by
      intro k hk hne hm
      rcases List.mem_cons.1 hm with h | h
      · exact hne h
      · rcases List.mem_cons.1 h with h | h
        · omega
        · have := HROW.out _ (by simpa using h); omega
    have tp := putObj_touch (w1.setCell ⟨w.heap.size, 0, none⟩ (.slice (some ⟨g', 0, none⟩) (pre.length + 1) cap')) (W0.heap.size + 1) (.loop (rec .ready none))
    refine ⟨⟨⟨_, tp.blk hO3 (by simp; omega), trow_low hR3 tp (by simp; omega)⟩, World.putObj_heap_same (lt_of_heap hL3), (tf _).heap H4.out (hmem _ (by omega) (by omega)), h5.trans (tf _) ?_, Nat.le_trans h6 (tf _).size⟩, ?_⟩
    · intro k hk
      right
      rcases List.mem_cons.1 hk with h | h
      · omega
      · rcases List.mem_cons.1 h with h | h
        · omega
        · have := HROW.out _ (by simpa using h); omega
    · refine ⟨(tf _).size, fun k o hk ho => (tf _).heap hk (fun hm => ?_)⟩
      rcases List.mem_cons.1 hm with h | h
      · have h1 := H1.out
        unfold Blk at h1
        rw [h, h1] at hk
        cases hk
        cases ho
      · rcases List.mem_cons.1 h with h | h
        · rw [h, H3.out] at hk
          cases hk
          cases ho
        · exact prow_not_walk H2.out hk ho (by simpa using h)
  refine (callsIn_wide.2 hmain).mono ?_
  rintro e W2 ⟨⟨v, rfl⟩, xs, hxs, ⟨vo, hO2, hR2⟩, hL2, hD2, hT2, hs2⟩
  refine ⟨none, W2.putObj (W0.heap.size + 1) (.loop (rec .exhausted none)), by have := run_endLoop (P := Try.prog) hL2 (by rw [hrec]; simp); rw [hrec] at this ⊢; exact this, ?_⟩
  obtain ⟨W5, hW5⟩ : ∃ W5, W5 = W2.putObj (W0.heap.size + 1) (.loop (rec .exhausted none)) := ⟨_, rfl⟩
  have t5 : Touch [W0.heap.size + 1] W2 W5 := by rw [hW5]; exact putObj_touch _ _ _
  rw [← hW5]
  clear hW5
  have hO5 := t5.blk hO2 (by simp; omega)
  have hR5 : PRow W5 (w.heap.size + 3) vo xs := trow_low hR2 t5 (by simp; omega)
  have hK : W5.heap[W0.heap.size]? = some (.deferred (some [])) := t5.heap hD2 (by simp)
  have T5 : Touch [] w W5 := hT2.trans t5 (by simp; omega)
  have k1 : W5.cell? ⟨w.heap.size, 0, none⟩ = some vo := hO5.cell 0
  have HR5 := Lib.hid hR5
  have HXS := Lib.hid hxs
  have HT5 := Lib.hid T5
  have HS0 := Lib.hid hs0
  clear hmain hR5 hL2 hD2 hR2 hL1 hD1 hrec hs0 hxs T5
  gi_wp2
  refine ⟨by simp, .inl ⟨_, _, rfl, run_takeDeferred hK, ?_⟩⟩
  have tz := putObj_touch W5 W0.heap.size (.deferred none)
  refine ⟨_, results_tmp rfl _ _ _, vo, xs, rfl, HXS.out, ?_, HT5.out.trans tz (by have := HS0.out; simp; omega)⟩
  exact trow_base (trow_low HR5.out tz (by have := HS0.out; simp; omega)) (by omega)
theorem collect_any (w : World) (Bm : Nat) (L : List It) (hit : Iters w Bm L) (hL : L.length ≤ 1000000) :
    Calls Try.prog 47 #[.func (.func 64) #[] #[.pointer (some ⟨Bm, 0, none⟩)]] w fun e w' =>
      ∃ v gs, e = .returned v ∧ gs.Perm (L.map It.g) ∧ PRow w' w.heap.size v gs ∧ Touch [] w w' := by
  have HA := Lib.hid (appseq_any w Bm L hit hL)
  clear hit hL
  go_enter Try.func47, Try.ntmps47
  go_wp2_with fail
  refine HA.out.mono ?_
  rintro e w1 ⟨v, gs, rfl, h1, h2, h3⟩
  have HH := Lib.hid (And.intro h1 (And.intro h2 h3))
  clear h1 h2 h3
  go_wp2_with fail
  go_ret
  exact ⟨v, gs, rfl, HH.out.1, HH.out.2.1, HH.out.2.2⟩
end Go.Proofs.Ytibbfihnhlgkeaa

/- The cache's heap: the one that is stale first is the first one. No program here. -/
namespace Go.Proofs.Ytibbfihnhlgkeaa.CM
open NM (Bs bs ofBs)

def tl (l : List It) (i : Nat) : Int := l[i]!.e.til
/-- the first n are a heap -/
def Hp (n : Nat) (l : List It) : Prop := ∀ i, 0 < i → i < n → tl l ((i - 1) / 2) ≤ tl l i
theorem tl_swap {l : List It} {i j : Nat} (hi : i < l.length) (hj : j < l.length) (m : Nat) : tl (swap l i j) m = if m = j then tl l i else if m = i then tl l j else tl l m := by
  unfold tl swap
  by_cases hm : m < l.length
  · rw [getElem!_pos _ m (by simpa using hm)]
    by_cases h1 : m = j
    · subst h1
      rw [if_pos rfl, List.getElem_set_self]
    · rw [if_neg h1, List.getElem_set_ne (Ne.symm h1)]
      by_cases h2 : m = i
      · subst h2
        rw [if_pos rfl, List.getElem_set_self]
      · rw [if_neg h2, List.getElem_set_ne (Ne.symm h2), getElem!_pos l m hm]
  · rw [if_neg (by omega), if_neg (by omega)]
    rw [getElem!_neg _ m (by simpa using hm), getElem!_neg l m hm]
theorem less_tl (l : List It) (i j : Nat) : less l i j = decide (tl l i < tl l j) := rfl
/-- a heap but for the way from j up -/
def HpUp (n : Nat) (l : List It) (j : Nat) : Prop :=
  (∀ i, 0 < i → i < n → i ≠ j → tl l ((i - 1) / 2) ≤ tl l i) ∧ ∀ i, 0 < i → i < n → (i - 1) / 2 = j → 0 < j → tl l ((j - 1) / 2) ≤ tl l i
theorem up_hp (n : Nat) : ∀ (f : Nat) (l : List It) (j : Nat), j < f → j < n → n ≤ l.length → HpUp n l j → Hp n (up f l j)
  | 0, _, _, h, _, _, _ => by omega
  | f + 1, l, j, hf, hj, hn, ⟨h1, h2⟩ => by
    unfold up
    split
    · rename_i hs
      intro i h0 hi
      by_cases e : i = j
      · subst e
        rcases hs with h | h
        · omega
        · rw [less_tl] at h
          have := of_decide_eq_false h
          omega
      · exact h1 i h0 hi e
    · rename_i hs
      have hs1 : (j - 1) / 2 ≠ j := fun e => hs (.inl e)
      have hs2 : tl l j < tl l ((j - 1) / 2) := by
        have : ¬ less l j ((j - 1) / 2) = false := fun e => hs (.inr e)
        rw [less_tl] at this
        simpa using this
      have hp0 : 0 < j := by omega
      obtain ⟨p, hp⟩ : ∃ p, p = (j - 1) / 2 := ⟨_, rfl⟩
      rw [← hp] at hs1 hs2 ⊢
      have hpj : p < j := by omega
      have hsw := tl_swap (l := l) (i := p) (j := j) (by omega) (by omega)
      refine up_hp n f _ p (by omega) (by omega) (by rw [swap_length]; exact hn) ⟨fun i h0 hi hne => ?_, fun i h0 hi he hp0' => ?_⟩
      · rw [hsw, hsw]
        by_cases e : i = j
        · subst e
          rw [if_pos rfl, ← hp, if_neg (by omega), if_pos rfl]
          omega
        · rw [if_neg e, if_neg hne]
          by_cases e2 : (i - 1) / 2 = j
          · rw [e2, if_pos rfl, hp]
            exact h2 i h0 hi e2 hp0
          · rw [if_neg e2]
            by_cases e3 : (i - 1) / 2 = p
            · rw [if_pos e3]
              have := h1 i h0 hi e
              rw [e3] at this
              omega
            · rw [if_neg e3]
              exact h1 i h0 hi e
      · rw [hsw, hsw]
        rw [if_neg (by omega), if_neg (by omega)]
        have hpp := h1 p hp0' (by omega) (by omega)
        by_cases e : i = j
        · rw [if_pos e]
          exact hpp
        · rw [if_neg e, if_neg (by omega)]
          have := h1 i h0 hi e
          rw [he] at this
          omega
/-- a heap but for one place, up and down -/
def HpAt (n : Nat) (l : List It) (i : Nat) : Prop :=
  (∀ m, 0 < m → m < n → m ≠ i → (m - 1) / 2 ≠ i → tl l ((m - 1) / 2) ≤ tl l m) ∧ ∀ m, 0 < m → m < n → (m - 1) / 2 = i → 0 < i → tl l ((i - 1) / 2) ≤ tl l m
theorem child_least (l : List It) (i n m : Nat) (hm : m < n) (h0 : 0 < m) (he : (m - 1) / 2 = i) : tl l (child l i n) ≤ tl l m := by
  unfold child
  rw [less_tl]
  have hcases : m = 2 * i + 1 ∨ m = 2 * i + 2 := by omega
  split
  · rename_i h
    have := of_decide_eq_true h.2
    rcases hcases with rfl | rfl <;> omega
  · rename_i h
    rcases hcases with rfl | rfl
    · omega
    · by_cases hlt : tl l (2 * i + 2) < tl l (2 * i + 1)
      · exact absurd ⟨hm, decide_eq_true hlt⟩ h
      · omega
theorem down_hp (n : Nat) : ∀ (f : Nat) (l : List It) (i : Nat), n < f + i → n ≤ l.length → i < n → HpAt n l i →
    (∀ m, 0 < m → m < n → m ≠ (down f l i n).2 → tl (down f l i n).1 ((m - 1) / 2) ≤ tl (down f l i n).1 m) ∧
    ((down f l i n).2 = i ∧ (down f l i n).1 = l ∨ Hp n (down f l i n).1)
  | 0, _, _, h, _, _, _ => by omega
  | f + 1, l, i, hf, hn, hi, ⟨h1, h2⟩ => by
    unfold down
    split
    · rename_i hc
      refine ⟨fun m h0 hm hne => h1 m h0 hm hne (by omega), .inl ⟨rfl, rfl⟩⟩
    · split
      · rename_i hc hl
        rw [less_tl] at hl
        have hl := of_decide_eq_false hl
        refine ⟨fun m h0 hm hne => ?_, .inl ⟨rfl, rfl⟩⟩
        by_cases e : (m - 1) / 2 = i
        · have := child_least l i n m hm h0 e
          show tl l ((m - 1) / 2) ≤ tl l m
          rw [e]
          omega
        · exact h1 m h0 hm hne e
      · rename_i hc hl
        have hl : tl l (child l i n) < tl l i := by rw [less_tl] at hl; simpa using hl
        have hcl := fun m hm h0 he => child_least l i n m hm h0 he
        have hcr : child l i n < n ∧ 2 * i + 1 ≤ child l i n ∧ (child l i n - 1) / 2 = i := by
          rcases child_cases l i n with h | ⟨h, h3⟩ <;> rw [h] <;> omega
        obtain ⟨c, hce⟩ : ∃ c, c = child l i n := ⟨_, rfl⟩
        rw [← hce] at hl hcl hcr ⊢
        obtain ⟨hcn, hci, hcp⟩ := hcr
        have hsw := tl_swap (l := l) (i := i) (j := c) (by omega) (by omega)
        have hnew : HpAt n (swap l i c) c := by
          refine ⟨fun m h0 hm hne hpne => ?_, fun m h0 hm he _ => ?_⟩
          · rw [hsw, hsw, if_neg hpne, if_neg hne]
            by_cases e : m = i
            · subst e
              rw [if_neg (by omega), if_pos rfl]
              exact h2 c (by omega) hcn hcp h0
            · rw [if_neg e]
              by_cases e2 : (m - 1) / 2 = i
              · rw [if_pos e2]
                exact hcl m hm h0 e2
              · rw [if_neg e2]
                exact h1 m h0 hm e e2
          · rw [hsw, hsw, if_neg (by omega), if_pos (by omega), if_neg (by omega), if_neg (by omega)]
            have := h1 m h0 hm (by omega) (by omega)
            rw [he] at this
            exact this
        have hge := (down_perm f (swap l i c) c n (by rw [swap_length]; exact hn)).2.1
        obtain ⟨h3, h4⟩ := down_hp n f (swap l i c) c (by omega) (by rw [swap_length]; exact hn) hcn hnew
        refine ⟨h3, .inr ?_⟩
        rcases h4 with ⟨h4, h5⟩ | h4
        · intro m h0 hm
          by_cases e : m = c
          · rw [h5, hsw, hsw, e, hcp, if_neg (by omega), if_pos rfl, if_pos rfl]
            omega
          · exact h3 m h0 hm (by rw [h4]; exact e)
        · exact h4
theorem fix_hp (n : Nat) (l : List It) (i : Nat) (hn : n ≤ l.length) (hi : i < n) (h : HpAt n l i) : Hp n (fix l i n) := by
  obtain ⟨h1, h2⟩ := down_hp n (n + 1) l i (by omega) hn hi h
  have hge := (down_perm (n + 1) l i n hn).2.1
  unfold fix
  rcases h2 with ⟨h3, h4⟩ | h2
  · rw [h3, if_neg (Nat.lt_irrefl _), h4]
    refine up_hp n (i + 1) l i (by omega) hi hn ⟨fun m h0 hm hne => ?_, h.2⟩
    have := h1 m h0 hm (by rw [h3]; exact hne)
    rwa [h4] at this
  · split
    · exact h2
    · refine up_hp n (i + 1) _ i (by omega) hi (by rw [down_length]; exact hn) ⟨fun m h0 hm _ => h2 m h0 hm, fun m h0 hm he hi0 => ?_⟩
      have a := h2 m h0 hm
      have b := h2 i hi0 hi
      rw [he] at a
      omega
theorem tl_append (l : List It) (x : It) (i : Nat) (hi : i < l.length) : tl (l ++ [x]) i = tl l i := by
  unfold tl
  rw [getElem!_pos _ i (by simp; omega), getElem!_pos l i hi, List.getElem_append_left hi]
theorem tl_take (l : List It) (n i : Nat) (hi : i < n) (hn : n ≤ l.length) : tl (l.take n) i = tl l i := by
  unfold tl
  rw [getElem!_pos _ i (by simp; omega), getElem!_pos l i (by omega), List.getElem_take]
def IsHp (l : List It) : Prop := Hp l.length l
theorem push_hp {l : List It} (h : IsHp l) (x : It) : IsHp (push l x) := by
  unfold IsHp
  rw [push_length]
  unfold push
  refine up_hp (l.length + 1) (l.length + 1) _ l.length (by omega) (by omega) (by simp) ⟨fun i h0 hi hne => ?_, fun i h0 hi he _ => by omega⟩
  rw [tl_append l x _ (by omega), tl_append l x i (by omega)]
  exact h i h0 (by omega)
theorem remove_hp {l : List It} (h : IsHp l) (i : Nat) (hi : i < l.length) : IsHp (remove l i) := by
  unfold IsHp
  rw [remove_length]
  have key : ∀ L : List It, l.length - 1 ≤ L.length → Hp (l.length - 1) L → Hp (l.length - 1) (L.take (l.length - 1)) := by
    intro L hL hh m h0 hm
    rw [tl_take L _ _ (by omega) hL, tl_take L _ _ hm hL]
    exact hh m h0 hm
  unfold remove
  split
  · exact key l (by omega) (fun m h0 hm => h m h0 (by omega))
  · rename_i hne
    have hsw := tl_swap (l := l) (i := i) (j := l.length - 1) hi (by omega)
    refine key _ (by rw [fix_length, swap_length]; omega) (fix_hp _ _ i (by rw [swap_length]; omega) (by omega) ⟨fun m h0 hm hm1 hm2 => ?_, fun m h0 hm he hi0 => ?_⟩)
    · rw [hsw, hsw, if_neg (by omega), if_neg hm2, if_neg (by omega), if_neg hm1]
      exact h m h0 (by omega)
    · rw [hsw, hsw, if_neg (by omega), if_neg (by omega), if_neg (by omega), if_neg (by omega)]
      have a := h m h0 (by omega)
      have b := h i hi0 hi
      rw [he] at a
      omega
theorem hp_nil : IsHp [] := fun i _ hi => by simp at hi
/-- the first is stale first -/
theorem hp_root {l : List It} (h : IsHp l) : ∀ i, i < l.length → tl l 0 ≤ tl l i := by
  intro i
  induction i using Nat.strongRecOn with
  | ind i ih =>
    intro hi
    by_cases h0 : i = 0
    · subst h0; exact Int.le_refl _
    · have a := h i (by omega) hi
      have b := ih ((i - 1) / 2) (by omega) (by omega)
      omega
theorem hp_least {x : It} {t : List It} (h : IsHp (x :: t)) : ∀ y ∈ x :: t, x.e.til ≤ y.e.til := by
  intro y hy
  obtain ⟨i, hi, rfl⟩ := List.mem_iff_getElem.1 hy
  have := hp_root h i hi
  unfold tl at this
  rw [getElem!_pos _ i hi] at this
  exact this
theorem dropG_hp {l : List It} (h : IsHp l) {x : It} (hx : x ∈ l) : IsHp (dropG l x.g) := remove_hp h _ (place_lt hx)
theorem without_hp {l : List It} (h : IsHp l) (k : ByteArray) : IsHp (without l k) := by
  unfold without
  cases e : find l k with
  | none => exact h
  | some x => exact dropG_hp h (find_some e).1
/-- what is stale goes, and nothing else -/
theorem expire_hp : ∀ (f : Nat) (l : List It) (now : Int), l.length ≤ f → IsHp l → IsHp (expire f l now).1 ∧ ∀ x ∈ (expire f l now).1, now ≤ x.e.til
  | 0, l, now, hf, h => by
    have : l = [] := List.length_eq_zero_iff.1 (Nat.le_zero.1 hf)
    subst this
    exact ⟨hp_nil, by intro x hx; cases hx⟩
  | f + 1, [], now, _, h => ⟨hp_nil, by intro x hx; cases hx⟩
  | f + 1, x :: t, now, hf, h => by
    rw [expire_cons]
    split
    · exact expire_hp f (remove (x :: t) 0) now (by rw [remove_length]; simp at hf ⊢; omega) (remove_hp h 0 (by simp))
    · rename_i hs
      refine ⟨h, fun y hy => ?_⟩
      have := hp_least h y hy
      omega
theorem used_hp {c : C} (h : IsHp c.h) (g : Nat) : IsHp (used c g).h := by
  have key : ∀ (l : List It) (i : Nat), tl (l.map (fun x => if x.g = g then { x with used := c.uses + 1 } else x)) i = tl l i := by
    intro l i
    unfold tl
    by_cases hi : i < l.length
    · rw [getElem!_pos _ i (by simpa using hi), getElem!_pos l i hi, List.getElem_map]
      split <;> rfl
    · rw [getElem!_neg _ i (by simpa using hi), getElem!_neg l i hi]
  intro i h0 hi
  unfold used at hi ⊢
  simp only [List.length_map] at hi
  show tl (c.h.map _) _ ≤ tl (c.h.map _) _
  rw [key, key]
  exact h i h0 hi
theorem trim_hp (m : Int) {l : List It} (h : IsHp l) (now : Int) : IsHp (trim m l now) := by
  unfold trim
  have h1 : IsHp (if m < l.length then (expire l.length l now).1 else l) := by
    split
    · exact (expire_hp l.length l now (Nat.le_refl _) h).1
    · exact h
  generalize (if m < l.length then (expire l.length l now).1 else l) = l1 at h1 ⊢
  show IsHp (if m < (l1.length : Int) then remove l1 (old l1) else l1)
  split
  · by_cases hpos : 0 < l1.length
    · exact remove_hp h1 _ (old_lt hpos)
    · have : l1 = [] := List.length_eq_zero_iff.1 (by omega)
      subst this
      intro i h0 hi
      rw [remove_length] at hi
      simp at hi
  · exact h1
end Go.Proofs.Ytibbfihnhlgkeaa.CM

/- Flush. -/
namespace Go.Proofs.Ytibbfihnhlgkeaa
open Go.RowKit Go.Maps Go.WideMaps
open NM (Bs bs ofBs)
open CM (It C)

theorem K.foot_lt {w : World} {B : Nat} {mo : Option Nat} {v : Value} {m u : Int} {l : List It} (h : K w B mo v m u l) : ∀ k ∈ cfoot B mo v l, k < w.heap.size := by
  intro k hk
  unfold cfoot at hk
  simp only [List.mem_cons, List.mem_append] at hk
  rcases hk with rfl | hk | hk | hk
  · exact h.hp.blk.lt
  · rw [Option.mem_toList] at hk
    rcases h.map with ⟨e, _⟩ | ⟨mb, Dm, e, ⟨es, clock, hh, _⟩, _⟩
    · rw [e] at hk; cases hk
    · rw [e] at hk
      cases hk
      exact lt_of_heap hh
  · rw [Option.mem_toList] at hk
    obtain ⟨cur, h4⟩ := h.hp.ownBlk hk
    exact h4.lt
  · obtain ⟨x, hx, rfl⟩ := List.mem_map.1 hk
    obtain ⟨i, hi, rfl⟩ := List.mem_iff_getElem.1 hx
    exact (h.hp.items i hi).lt
/-- is an entry flushed? -/
def flushed (z : ByteArray) (ep : Int) (x : It) : Bool := decide (x.e.epoch < ep) && NM.under (bs x.e.name) (bs z)
/-- what is left when the first ones were looked at -/
def LeftF (z : ByteArray) (ep : Int) (l : List It) (gs : List Nat) (l' : List It) : Prop := ∀ y, y ∈ l' ↔ y ∈ l ∧ ¬ (flushed z ep y = true ∧ y.g ∈ gs)
theorem PRow.at_ {w : World} {B : Nat} {v : Value} {gs : List Nat} (h : PRow w B v gs) : ∃ a cap, v = .slice a gs.length cap ∧ ∀ i (hi : i < gs.length), ∃ G, a = some ⟨G, 0, none⟩ ∧ w.cell? ⟨G, i, none⟩ = some (ptrG gs[i]) := by
  obtain ⟨hl, h⟩ := h
  rcases h with ⟨rfl, h0⟩ | ⟨g, cap, cur, rfl, h1, h2, h3, h4, h5, h6⟩
  · exact ⟨none, 0, by rw [h0], fun i hi => by omega⟩
  · refine ⟨some ⟨g, 0, none⟩, cap, rfl, fun i hi => ⟨g, rfl, ?_⟩⟩
    rw [cell_of_row w g i cur _ (0, 0) h2]
    have h7 : (gs.map ptrG)[i]? = some (ptrG gs[i]) := by rw [List.getElem?_map, List.getElem?_eq_getElem hi]; rfl
    rw [← h6, List.getElem?_take] at h7
    split at h7
    · simpa using h7
    · cases h7
set_option maxRecDepth 10000 in
set_option maxHeartbeats 2000000 in
theorem flush_any (w : World) (B : Nat) (mo : Option Nat) (v : Value) (m u : Int) (l : List It) (h : K w B mo v m u l) (z : ByteArray) (hz : z.size ≤ 1099511627776) (ep : Int) (hl : l.length ≤ 1000000) :
    Calls Try.prog 24 #[.pointer (some ⟨B, 0, none⟩), .string z, .int .i64 ep] w fun e w' => ∃ (n : Nat) (v' : Value) (l' : List It), e = .returned (.int .i64 (n : Int)) ∧ K w' B mo v' m u l' ∧ Touch (cfoot B mo v l) w w' ∧ v'.ownBlock = v.ownBlock ∧
      (∀ y, y ∈ l' ↔ y ∈ l ∧ flushed z ep y = false) ∧ n + l'.length = l.length ∧ (CM.IsHp l → CM.IsHp l') := by
  have c1 : w.cell? ⟨B, 1, none⟩ = some (.map mo) := h.hp.blk.cell 1
  have T0 : Touch [] w (w.alloc (.cells #[.map mo] 57)) := (Touch.refl [] w).alloc _
  have hit := iters_of (Bm := w.heap.size) h.keys (Blk.new w 57 #[.map mo]) (h.quiet T0).map
  have HC := Lib.hid (collect_any _ w.heap.size l hit hl)
  have HH := Lib.hid h
  have HT0 := Lib.hid T0
  have HLT := Lib.hid h.foot_lt
  have HG := Lib.hid (And.intro h.hp.gs hl)
  have HZ := Lib.hid hz
  obtain ⟨w0, hw0⟩ : ∃ W, W = w.alloc (.cells #[.map mo] 57) := ⟨_, rfl⟩
  rw [← hw0] at HC HT0
  have HW0 := Lib.hid hw0
  have HV := Lib.hid (values_any w mo)
  rw [← hw0] at HV
  clear T0 hit h hl hw0 hz
  go_enter Try.func24, Try.ntmps24
  go_wp2_with fail
  refine HV.out.mono ?_
  rintro e w1 ⟨rfl, rfl⟩
  clear c1
  go_wp2_with fail
  refine HC.out.mono ?_
  rintro e w2 ⟨vr, gs, rfl, hgs, hrow, T2⟩
  obtain ⟨ar, cr, rfl, hat⟩ := hrow.at_
  have hgl : gs.length = l.length := by rw [hgs.length_eq, List.length_map]
  have hT2 := HT0.out.trans T2 (by simp)
  have HGS := Lib.hid (And.intro hgs (And.intro hgl (And.intro (trow_base hrow HT0.out.size) (And.intro hat (And.intro hT2 ((hgs.nodup_iff).2 HG.out.1))))))
  obtain ⟨n, hn⟩ : ∃ n, n = gs.length := ⟨_, rfl⟩
  rw [← hn]
  have HN := Lib.hid hn
  clear hgs hrow T2 hat hgl hT2 hn
  go_wp2_with fail
  go_loopw [7, 19] (fun s7 s19 wr => ∃ (i k : Nat) (v' : Value) (l' : List It), s7 = .int .i64 (k : Int) ∧ s19 = .int .i64 (i : Int) ∧ i ≤ n ∧ K wr B mo v' m u l' ∧ Touch (cfoot B mo v l) w wr ∧ PRow wr w.heap.size (.slice ar n cr) gs ∧ v'.ownBlock = v.ownBlock ∧ LeftF z ep l (gs.take i) l' ∧ k + l'.length = l.length ∧ (CM.IsHp l → CM.IsHp l')) (fun _ s19 _ => n - (intOf s19).toNat)
  case atStart =>
    refine ⟨0, 0, v, l, rfl, rfl, Nat.zero_le _, HH.out.quiet HGS.out.2.2.2.2.1, HGS.out.2.2.2.2.1.mono (by simp), by have := HGS.out.2.2.1; rw [HN.out]; exact this, rfl, fun y => by simp, by omega, fun h => h⟩
  case round =>
    obtain ⟨i, k, v', l', rfl, rfl, hi, hK, hT, hrow, hvo, hlf, hkl⟩ := hrel
    obtain ⟨wo, rfl⟩ : ∃ wo, wo = wr := ⟨_, rfl⟩
    have HS := Lib.hid (And.intro hK (And.intro hT (And.intro hrow (And.intro hvo (And.intro hlf (And.intro hkl hi))))))
    clear hK hT hrow hvo hlf hkl hi
    by_cases hlt : i < n
    · have hltI : (i : Int) < (n : Int) := by omega
      have hig : i < gs.length := by rw [← HN.out]; exact hlt
      obtain ⟨hK, hT, hrow, hvo, hlf, hkl, _⟩ := HS.out
      rw [HN.out] at hrow
      obtain ⟨a2, c2, hsl, hat⟩ := hrow.at_
      obtain ⟨G, ha2, hcell⟩ := hat i hig
      injection hsl with e1 _ e3
      subst e1 e3
      subst ha2
      -- the entry
      have hmem : gs[i] ∈ l.map It.g := HGS.out.1.subset (List.getElem_mem hig)
      obtain ⟨x, hxl, hxg⟩ := List.mem_map.1 hmem
      have hnot : gs[i] ∉ gs.take i := by
        intro hm
        obtain ⟨j, hj, e⟩ := List.mem_iff_getElem.1 hm
        rw [List.length_take] at hj
        rw [List.getElem_take] at e
        have := (List.getElem_inj HGS.out.2.2.2.2.2).1 e
        omega
      have hx' : x ∈ l' := (hlf x).2 ⟨hxl, fun hh => hnot (by rw [← hxg]; exact hh.2)⟩
      obtain ⟨j, hj, hxj⟩ := List.mem_iff_getElem.1 hx'
      have hbx := hK.hp.items j hj
      rw [hxj] at hbx
      have d7 : wo.cell? ⟨x.g, 7, none⟩ = some (.int .i64 x.e.epoch) := hbx.cell 7
      have d1 : wo.cell? ⟨x.g, 1, none⟩ = some (.string x.e.name) := hbx.cell 1
      rw [show ptrG gs[i] = .pointer (some ⟨x.g, 0, none⟩) by rw [← hxg]; rfl] at hcell
      have hxn : x.e.name.size ≤ 1099511627776 := (hK.ok x hx').2.2.1
      have HU := Lib.hid (fun W => nunder_any W x.e.name z hxn HZ.out)
      have HWR := Lib.hid (show wrap64 ((i : Int) + 1) = (i : Int) + 1 from IntWalk.wrap64_in _ (by have := HG.out.2; have := HGS.out.2.1; have := HN.out; omega))
      have HWK := Lib.hid (show wrap64 ((k : Int) + 1) = (k : Int) + 1 from IntWalk.wrap64_in _ (by have := HG.out.2; have := hkl.1; omega))
      have hrowk : ∀ (W : World), Touch (cfoot B mo v' l') wo W → PRow W w.heap.size (.slice (some ⟨G, 0, none⟩) n cr) gs := fun W t => by
        rw [HN.out]
        refine trow_touch hrow t (fun q hq hm => ?_)
        have h1 := (hrow.lt q hq).1
        have h2 := HLT.out q (cfoot_sub hvo (fun y hy => ((hlf y).1 hy).1) q hm)
        omega
      -- both ends of the round
      have hstay : flushed z ep x = false → LeftF z ep l (gs.take (i + 1)) l' := fun hf y => by
        rw [hlf y, List.take_succ_eq_append_getElem hig]
        constructor
        · rintro ⟨h1, h2⟩
          refine ⟨h1, fun hh => ?_⟩
          rcases List.mem_append.1 hh.2 with hm | hm
          · exact h2 ⟨hh.1, hm⟩
          · simp only [List.mem_cons, List.not_mem_nil, or_false] at hm
            have : y = x := CM.nodup_inj HG.out.1 h1 hxl (by rw [hm, hxg])
            rw [this, hf] at hh
            cases hh.1
        · rintro ⟨h1, h2⟩
          exact ⟨h1, fun hh => h2 ⟨hh.1, List.mem_append_left _ hh.2⟩⟩
      have hgone : flushed z ep x = true → LeftF z ep l (gs.take (i + 1)) (CM.remove l' j) := fun hf y => by
        have hp := CM.remove_perm l' j hj
        rw [hxj] at hp
        have hnd : ((x :: CM.remove l' j).map It.g).Nodup := ((hp.map It.g).nodup_iff).2 hK.hp.gs
        rw [List.map_cons, List.nodup_cons] at hnd
        rw [List.take_succ_eq_append_getElem hig]
        constructor
        · intro hy
          have hy2 := (hlf y).1 (hp.subset (List.mem_cons_of_mem _ hy))
          refine ⟨hy2.1, fun hh => ?_⟩
          rcases List.mem_append.1 hh.2 with hm | hm
          · exact hy2.2 ⟨hh.1, hm⟩
          · simp only [List.mem_cons, List.not_mem_nil, or_false] at hm
            exact hnd.1 (by rw [hxg, ← hm]; exact List.mem_map_of_mem hy)
        · rintro ⟨h1, h2⟩
          have hy2 : y ∈ l' := (hlf y).2 ⟨h1, fun hh => h2 ⟨hh.1, List.mem_append_left _ hh.2⟩⟩
          rcases List.mem_cons.1 (hp.symm.subset hy2) with rfl | h3
          · exact absurd ⟨hf, List.mem_append_right _ (by rw [hxg]; exact List.mem_cons_self)⟩ h2
          · exact h3
      have hdrop := fun W (t : Touch [] wo W) => drop_any W B mo v' m u l' (hK.quiet t) j hj
      rw [hxj] at hdrop
      have HD := Lib.hid hdrop
      have HR := Lib.hid (And.intro hrowk (And.intro hstay hgone))
      have HL := Lib.hid (And.intro hlt hj)
      have hfl : flushed z ep x = (decide (x.e.epoch < ep) && NM.under (bs x.e.name) (bs z)) := rfl
      obtain ⟨fl, hfe⟩ : ∃ b, b = flushed z ep x := ⟨_, rfl⟩
      rw [← hfe] at hfl
      have HFE := Lib.hid hfe.symm
      obtain ⟨un, hun⟩ : ∃ b, b = NM.under (bs x.e.name) (bs z) := ⟨_, rfl⟩
      rw [← hun] at hfl HU
      have HFL := Lib.hid hfl
      obtain ⟨epx, hepx⟩ : ∃ b, b = x.e.epoch := ⟨_, rfl⟩
      rw [← hepx] at d7 HFL
      clear hK hT hvo hlf hkl hat hmem hnot hx' hxj hbx hrowk hstay hgone hdrop hlt hig hfl hfe hun hepx hrow hxn hxg
      rw [show ptr x = .pointer (some ⟨x.g, 0, none⟩) from rfl] at HD
      by_cases hep : epx < ep
      · have HF1 := Lib.hid (show fl = un by rw [HFL.out, decide_eq_true hep]; rfl)
        clear HFL
        go_wp2_with fail
        refine (HU.out _).mono ?_
        rintro e w3 ⟨rfl, T3⟩
        have HT3 := Lib.hid T3
        clear T3
        cases un with
        | true =>
          go_wp2_with fail
          refine (HD.out w3 HT3.out).mono ?_
          rintro e w4 ⟨⟨r4, rfl⟩, v4, hK4, hT4, hv4⟩
          have HK4 := Lib.hid (And.intro hK4 (And.intro hT4 hv4))
          clear hK4 hT4 hv4
          have hwk := HWK.out
          have hwr := HWR.out
          go_wp2_with fail
          go_roundw
          case rel =>
            obtain ⟨hK, hT, hrow, hvo, hlf, hkl, _⟩ := HS.out
            have tt : Touch (cfoot B mo v' l') wo w4 := (HT3.out.mono (by simp)).trans HK4.out.2.1 (fun k hk => .inl hk)
            refine ⟨i + 1, k + 1, v4, _, by rw [hwk]; rfl, by rw [hwr]; rfl, HL.out.1, HK4.out.1, hT.trans tt (fun q hq => .inl (cfoot_sub hvo (fun y hy => ((hlf y).1 hy).1) q hq)), HR.out.1 _ tt, HK4.out.2.2.trans hvo, HR.out.2.2 (by rw [HFE.out, HF1.out]), ?_⟩
            refine ⟨?_, fun h => CM.remove_hp (hkl.2 h) _ HL.out.2⟩
            rw [CM.remove_length]
            have := HL.out.2
            have := hkl.1
            omega
          case measure => exact lt_sub_of_u (x := i + 1) (i := i) (by rw [hwr]; rfl) rfl (by have := HL.out.1; omega)
        | false =>
          have hwr := HWR.out
          go_wp2_with fail
          go_roundw
          case rel =>
            obtain ⟨hK, hT, hrow, hvo, hlf, hkl, _⟩ := HS.out
            exact ⟨i + 1, k, v', l', rfl, by rw [hwr]; rfl, HL.out.1, hK.quiet HT3.out, hT.trans HT3.out (by simp), HR.out.1 _ (HT3.out.mono (by simp)), hvo, HR.out.2.1 (by rw [HFE.out, HF1.out]), hkl⟩
          case measure => exact lt_sub_of_u (x := i + 1) (i := i) (by rw [hwr]; rfl) rfl (by have := HL.out.1; omega)
      · have hepd : decide (epx < ep) = false := decide_eq_false hep
        have HF1 := Lib.hid (show fl = false by rw [HFL.out, hepd]; rfl)
        have hge : ep ≤ epx := by omega
        clear HFL hep
        have hwr := HWR.out
        go_wp2_with fail
        go_roundw
        case rel =>
          obtain ⟨hK, hT, hrow, hvo, hlf, hkl, _⟩ := HS.out
          exact ⟨i + 1, k, v', l', rfl, by rw [hwr]; rfl, HL.out.1, hK, hT, HR.out.1 _ (Touch.refl _ _), hvo, HR.out.2.1 (by rw [HFE.out, HF1.out]), hkl⟩
        case measure => exact lt_sub_of_u (x := i + 1) (i := i) (by rw [hwr]; rfl) rfl (by have := HL.out.1; omega)
    · have hge : (n : Int) ≤ (i : Int) := by omega
      have HE := Lib.hid (show ∀ y, y ∈ l' ↔ y ∈ l ∧ flushed z ep y = false from fun y => by
        obtain ⟨_, _, _, _, hlf, _, _⟩ := HS.out
        rw [hlf y, List.take_of_length_le (by have := HN.out; omega)]
        constructor
        · rintro ⟨h1, h2⟩
          refine ⟨h1, ?_⟩
          have hg : y.g ∈ gs := HGS.out.1.symm.subset (List.mem_map_of_mem h1)
          cases hf : flushed z ep y with
          | false => rfl
          | true => exact absurd ⟨hf, hg⟩ h2
        · rintro ⟨h1, h2⟩
          exact ⟨h1, fun hh => by rw [h2] at hh; cases hh.1⟩)
      clear hlt
      go_wp2_with fail
      go_ret
      obtain ⟨hK, hT, _, hvo, _, hkl, _⟩ := HS.out
      exact ⟨k, v', l', rfl, hK, hT, hvo, HE.out, hkl⟩
end Go.Proofs.Ytibbfihnhlgkeaa

/- CacheStays: what is used between stays. -/
namespace Go.Proofs.Ytibbfihnhlgkeaa
open Go.RowKit Go.Maps Go.WideMaps
open NM (Bs bs ofBs)
open CM (It C)

/-- an entry given away beside a Boolean is laid into a new block -/
theorem OC.laid {w0 w : World} {B : Nat} {c : C} (h : OC w0 w B c) (cs : Array Value) : OC w0 ((w.alloc (.cells zeroE 25)).setRow w.heap.size cs) B c :=
  h.quiet (((Touch.refl [] w).alloc _).row _ _ (.inr (Nat.le_refl _)))
theorem laid_t (w : World) (cs : Array Value) : Touch [] w ((w.alloc (.cells zeroE 25)).setRow w.heap.size cs) := ((Touch.refl [] w).alloc _).row _ _ (.inr (Nat.le_refl _))
/-- the key of the first one -/
def keyA : ByteArray := ofBs (CM.keyB 0 (bs ⟨#[1, 97, 0]⟩) ((1 : Nat) : Int) ((1 : Nat) : Int))
theorem keyA_eq (til : Int) : CM.key (entE 97 til) = keyA := by kernel_rfl
set_option maxRecDepth 100000 in
theorem keyA_ne : ∀ i : Fin 100, CM.key (entE (130 + i.val) 0) ≠ keyA := by decide +kernel
structure StaysI (m til : Int) (c : C) : Prop where
  inv : CM.Inv c
  most : c.most = m
  uses : 0 ≤ c.uses
  all : ∀ x ∈ c.h, x.e.rank = 3 ∧ x.e.til = til
  has : ∃ x ∈ c.h, x.key = keyA ∧ ∀ z ∈ c.h, z.used ≤ x.used
theorem StaysI.start (m til : Int) (hm : 1 ≤ m) (g : Nat) (rv : Value) (u : Int) (ht : 0 ≤ til ∧ til ≤ 1125899906842624) : StaysI m til (CM.put ⟨m, 0, []⟩ ⟨g, entE 97 til, rv, CM.key (entE 97 til), u⟩ 0) := by
  have h := CM.put_nil ⟨m, 0, []⟩ rfl ⟨g, entE 97 til, rv, CM.key (entE 97 til), u⟩ 0
  have hi : CM.Inv ⟨m, 0, []⟩ := ⟨by simp, by simp, by simp, by simp, by show ((([] : List It).length : Nat) : Int) ≤ CM.room _; unfold CM.room; simp; omega, by simp⟩
  refine ⟨hi.put _ 0 (by simp) (Int.le_refl _) rfl (ent_check 97 (by omega) til 3 0 ht (by omega)), rfl, by show (0 : Int) ≤ 0 + 1; omega, ?_, ?_⟩
  · intro x hx
    rw [h] at hx
    simp only [List.mem_cons, List.not_mem_nil, or_false] at hx
    subst hx
    exact ⟨rfl, rfl⟩
  · refine ⟨_, by rw [h]; exact List.mem_cons_self, keyA_eq til, fun z hz => ?_⟩
    rw [h] at hz
    simp only [List.mem_cons, List.not_mem_nil, or_false] at hz
    subst hz
    exact Int.le_refl _
theorem StaysI.may {m til : Int} {c : C} (I : StaysI m til c) (ht : 0 ≤ til ∧ til ≤ 1125899906842624) (b : Nat) (hb : b < 256) : CM.mayPut c (entE b til) 0 = true := by
  unfold CM.mayPut
  rw [CM.refused_rank c.h 3 (fun x hx => (I.all x hx).1) (entE b til) rfl 0, decide_eq_true ⟨ent_check b hb til 3 0 ht (by omega), by show (0 : Int) ≤ til; omega⟩]
  rfl
theorem StaysI.put {m til : Int} {c : C} (I : StaysI m til c) (hm : 2 ≤ m) (ht : 0 ≤ til ∧ til ≤ 1125899906842624) (i : Nat) (hi : i < 100) (g : Nat) (rv : Value) (u : Int) (hg : ∀ y ∈ c.h, y.g ≠ g) :
    ∃ x ∈ (CM.put c ⟨g, entE (130 + i) til, rv, CM.key (entE (130 + i) til), u⟩ 0).h, CM.tell (CM.put c ⟨g, entE (130 + i) til, rv, CM.key (entE (130 + i) til), u⟩ 0) keyA til = some x ∧
      StaysI m til (CM.used (CM.put c ⟨g, entE (130 + i) til, rv, CM.key (entE (130 + i) til), u⟩ 0) x.g) := by
  obtain ⟨X, hX⟩ : ∃ X : It, X = ⟨g, entE (130 + i) til, rv, CM.key (entE (130 + i) til), u⟩ := ⟨_, rfl⟩
  rw [← hX]
  have hXg : ∀ y ∈ c.h, y.g ≠ X.g := by rw [hX]; exact hg
  have hXk : X.key = CM.key X.e := by rw [hX]
  have hXc : CM.check X.e = 0 := by rw [hX]; exact ent_check (130 + i) (by omega) til 3 0 ht (by omega)
  have hXe : X.e.rank = 3 ∧ X.e.til = til := by rw [hX]; exact ⟨rfl, rfl⟩
  have hne : keyA ≠ X.key := by
    rw [hX]
    have := keyA_ne ⟨i, hi⟩
    exact fun e => this e.symm
  have I1 := I.inv.put X 0 hXg I.uses hXk hXc
  obtain ⟨xa, hxa, hka, hlast⟩ := I.has
  have hin := I.inv.put_stays X 0 hXg I.uses (by unfold CM.room; rw [I.most]; omega) hxa (by rw [hka]; exact hne) (by rw [(I.all xa hxa).2]; omega) hlast
  have htell := CM.tell_of I1 hin (now := til) (by rw [(I.all xa hxa).2]; exact Int.le_refl _)
  rw [hka] at htell
  have hu1 : 0 ≤ (CM.put c X 0).uses := by have := I.uses; show 0 ≤ c.uses + 1; omega
  have I2 := I1.used xa.g hu1
  have hall : ∀ x ∈ (CM.put c X 0).h, x.e.rank = 3 ∧ x.e.til = til := fun x hx => by
    rcases I.inv.put_mem X 0 hXg I.uses hx with rfl | ⟨h, _⟩
    · exact hXe
    · exact I.all x h
  refine ⟨xa, hin, htell, I2, I.most, by show 0 ≤ (CM.put c X 0).uses + 1; omega, fun x hx => ?_, ?_⟩
  · obtain ⟨y, hy, rfl⟩ := CM.used_mem hx
    split <;> exact hall y hy
  · refine ⟨{ xa with used := (CM.put c X 0).uses + 1 }, ?_, hka, fun z hz => ?_⟩
    · unfold CM.used
      exact List.mem_map.2 ⟨xa, hin, by simp⟩
    · exact (I2.le z hz).2
theorem StaysI.over {m til : Int} {c : C} (I : StaysI m til c) : CM.tell c keyA (til + 1) = none := CM.tell_none (fun x hx _ => by rw [(I.all x hx).2]; omega)
set_option maxRecDepth 10000 in
set_option maxHeartbeats 2000000 in
theorem stays_walk (cap oth til0 : Int) (w : World) (_ : (Lit.int .i64 cap).wf = true) (_ : (Lit.int .i64 oth).wf = true) (_ : (Lit.int .i64 til0).wf = true) :
    Calls Try.prog 4 #[.int .i64 cap, .int .i64 oth, .int .i64 til0] w fun e w' => e = .returned (.bool true) ∧ Touch [] w w' := by
  have hr : -19 < cap.tmod 19 ∧ cap.tmod 19 < 19 := by
    have := Int.tmod_lt_of_pos cap (show (0:Int) < 19 by decide)
    have h2 := Int.lt_tmod_of_pos cap (show (0:Int) < 19 by decide)
    omega
  have hq : -101 < oth.tmod 101 ∧ oth.tmod 101 < 101 := by
    have := Int.tmod_lt_of_pos oth (show (0:Int) < 101 by decide)
    have h2 := Int.lt_tmod_of_pos oth (show (0:Int) < 101 by decide)
    omega
  obtain ⟨r, hre⟩ : ∃ r, r = cap.tmod 19 := ⟨_, rfl⟩
  obtain ⟨q, hqe⟩ : ∃ r, r = oth.tmod 101 := ⟨_, rfl⟩
  rw [← hre] at hr
  rw [← hqe] at hq
  obtain ⟨hr0, hr1⟩ := hr
  obtain ⟨hq0, hq1⟩ := hq
  go_enter Try.func4, Try.ntmps4
  go_wp2_with fail
  refine (awake_any _).mono ?_
  rintro e w1 ⟨rfl, T1⟩
  have HT1 := Lib.hid T1
  clear T1
  go_upto_if 20 with (fail)
  go_cut [8] (fun s8 wx => (∃ k : Int, s8 = .int .i64 k ∧ 0 ≤ k ∧ k ≤ 18) ∧ wx = w1)
  case first =>
    by_cases hneg : r < 0
    · go_wp2
      go_meet
      exact ⟨⟨-r, by go_num, by omega⟩, rfl⟩
    · go_wp2
      go_meet
      exact ⟨⟨r, by go_num, by omega⟩, rfl⟩
  case rest =>
    obtain ⟨⟨k, rfl, hk0, hk1⟩, hw⟩ := hcut
    obtain rfl := hw.symm
    clear hre hr0 hr1
    go_upto_if 28 with (fail)
    go_cut [9] (fun s9 wx => (∃ k : Nat, s9 = .int .i64 (k : Int) ∧ k ≤ 100) ∧ wx = w1)
    case first =>
      by_cases hneg : q < 0
      · go_wp2
        go_meet
        exact ⟨⟨(-q).toNat, by go_num, by omega⟩, rfl⟩
      · go_wp2
        go_meet
        exact ⟨⟨q.toNat, by go_num, by omega⟩, rfl⟩
    case rest =>
      obtain ⟨⟨n, rfl, hn⟩, hw⟩ := hcut
      obtain rfl := hw.symm
      clear hqe hq0 hq1
      go_upto_region 9 with (fail)
      go_cut [36] (fun s wx => s = .bool (decide (til0 < 0 ∨ 1099511627776 < til0)) ∧ wx = w1)
      case first =>
        by_cases h1 : til0 < 0
        · have HD := Lib.hid (show decide (til0 < 0 ∨ 1099511627776 < til0) = true from decide_eq_true (.inl h1))
          go_wp2_with fail
          go_meet
          exact ⟨by rw [HD.out], rfl⟩
        · by_cases h2 : 1099511627776 < til0
          · have HD := Lib.hid (show decide (til0 < 0 ∨ 1099511627776 < til0) = true from decide_eq_true (.inr h2))
            have h3 : 0 ≤ til0 := by omega
            go_wp2_with fail
            go_meet
            exact ⟨by rw [HD.out], rfl⟩
          · have HD := Lib.hid (show decide (til0 < 0 ∨ 1099511627776 < til0) = false from decide_eq_false (by omega))
            have h3 : 0 ≤ til0 := by omega
            have h4 : til0 ≤ 1099511627776 := by omega
            go_wp2_with fail
            go_meet
            exact ⟨by rw [HD.out], rfl⟩
      case rest =>
        obtain ⟨rfl, hw⟩ := hcut
        obtain rfl := hw.symm
        go_upto_if 36 with (fail)
        go_cut [2] (fun s2 wx => (∃ t : Int, s2 = .int .i64 t ∧ 0 ≤ t ∧ t ≤ 1099511627776) ∧ wx = w1)
        case first =>
          by_cases h1 : til0 < 0 ∨ 1099511627776 < til0
          · have hd : decide (til0 < 0 ∨ 1099511627776 < til0) = true := decide_eq_true h1
            rw [hd]
            clear hd h1
            go_wp2_with fail
            go_meet
            exact ⟨⟨100, rfl, by omega, by omega⟩, rfl⟩
          · have hd : decide (til0 < 0 ∨ 1099511627776 < til0) = false := decide_eq_false h1
            have HH := Lib.hid h1
            rw [hd]
            clear hd h1
            go_wp2_with fail
            go_meet
            exact ⟨⟨til0, rfl, by have := HH.out; omega, by have := HH.out; omega⟩, rfl⟩
        case rest =>
          obtain ⟨⟨til, rfl, ht0, ht1⟩, hw⟩ := hcut
          obtain rfl := hw.symm
          have hwk : wrap64 (k + 2) = k + 2 := IntWalk.wrap64_in _ (by omega)
          have HK := Lib.hid (And.intro hk0 hk1)
          have HTL := Lib.hid (show 0 ≤ til ∧ til ≤ 1125899906842624 by omega)
          have HN := Lib.hid hn
          have hnw := onew w w1 HT1.out (k + 2)
          rw [show min (max (k + 2) 1) 100000 = k + 2 by omega] at hnw
          have HNW := Lib.hid hnw
          have HWT := Lib.hid (show wrap64 (til + 1) = til + 1 from IntWalk.wrap64_in _ (by omega))
          clear hk0 hk1 hnw ht0 ht1 hn
          go_wp2_with fail
          refine HNW.out.mono ?_
          rintro e w2 ⟨B, rfl, O2, T2⟩
          have HO2 := Lib.hid O2
          have HT2 := Lib.hid (HT1.out.trans T2 (by simp))
          clear O2 T2 hwk
          go_wp2_with fail
          refine (entry_any _ 97 (by omega) til).mono ?_
          rintro e w3 ⟨g3, rfl, _, b3, T3⟩
          have HO3 := Lib.hid (HO2.out.quiet T3)
          have HT3 := Lib.hid (HT2.out.trans T3 (by simp))
          have HB3 := Lib.hid b3
          clear T3 b3
          go_wp2_with fail
          refine (oputE w w3 B _ HO3.out 97 (by omega) til 3 0 g3 HB3.out 0 (by simp)).mono ?_
          rintro e w4 ⟨S4, h4, ⟨hm, _⟩ | ⟨hm, gx, rv, u, _, O4⟩⟩
          · have hmay : CM.mayPut ⟨k + 2, 0, []⟩ (entE 97 til) 0 = true := by
              unfold CM.mayPut
              rw [CM.refused_nil _ rfl, decide_eq_true ⟨ent_check 97 (by omega) til 3 0 HTL.out (by omega), by show (0 : Int) ≤ til; exact HTL.out.1⟩]
              rfl
            exact no_tf hm hmay
          have HT4 := Lib.hid (S4.touch HT3.out)
          have HO4 := Lib.hid O4
          have HI4 := Lib.hid (StaysI.start (k + 2) til (by have := HK.out; omega) gx rv u HTL.out)
          rw [hm] at h4
          subst h4
          clear S4 O4 hm
          go_wp2_with fail
          go_loopw [11] (fun s11 wr => ∃ (i : Nat) (c : C), s11 = .int .i64 (i : Int) ∧ i ≤ n ∧ c.uses ≤ 2 * i + 1 ∧ StaysI (k + 2) til c ∧ OC w wr B c ∧ Touch [] w wr) (fun s11 _ => n - (intOf s11).toNat)
          case atStart => exact ⟨0, _, rfl, Nat.zero_le _, by show (0 : Int) + 1 ≤ 2 * 0 + 1; omega, HI4.out, HO4.out, HT4.out⟩
          case round =>
            obtain ⟨i, c, rfl, hi, hu, I, O, T⟩ := hrel
            obtain ⟨wo, rfl⟩ : ∃ wo, wo = wr := ⟨_, rfl⟩
            have HI := Lib.hid (And.intro I (And.intro O (And.intro T (And.intro hu hi))))
            clear I O T hu
            by_cases hlt : i < n
            · have hi100 : i < 100 := by have := HN.out; omega
              have hltI : (i : Int) < (n : Int) := by omega
              have hw1 : wrap64 (130 + (i : Int)) = 130 + (i : Int) := IntWalk.wrap64_in _ (by omega)
              have hw8 : IntKind.u8.wrap (130 + (i : Int)) = ((130 + i : Nat) : Int) := by
                unfold IntKind.wrap
                simp [IntKind.signed, IntKind.bits]
                omega
              have HWR := Lib.hid (show wrap64 ((i : Int) + 1) = (i : Int) + 1 from IntWalk.wrap64_in _ (by omega))
              have HL := Lib.hid (And.intro hlt hi100)
              have HEN := Lib.hid (fun W => entry_any W (130 + i) (by omega) til)
              rw [show ((130 + i : Nat) : Int) = 130 + (i : Int) by omega] at HEN
              clear hlt hi hi100
              go_wp2_with fail
              refine (HEN.out _).mono ?_
              rintro e w5 ⟨g5, rfl, _, b5, T5⟩
              have HO5 := Lib.hid (HI.out.2.1.quiet T5)
              have HT5 := Lib.hid (HI.out.2.2.1.trans T5 (by simp))
              have HB5 := Lib.hid b5
              clear T5 b5 hw1 hw8
              go_wp2_with fail
              refine (oputE w w5 B _ HO5.out (130 + i) (by have := HL.out.2; omega) til 3 0 g5 HB5.out 0 (by have := HI.out.2.2.2.1; have := HL.out.2; omega)).mono ?_
              rintro e w6 ⟨S6, h6, ⟨hm, _⟩ | ⟨hm, gy, rvy, uy, hgy, O6⟩⟩
              · exact no_tf hm (HI.out.1.may HTL.out (130 + i) (by have := HL.out.2; omega))
              obtain ⟨xa, hxa, htell, I7⟩ := HI.out.1.put (by have := HK.out; omega) HTL.out i HL.out.2 gy rvy uy hgy
              obtain ⟨c6, hc6⟩ : ∃ c6, c6 = CM.put c ⟨gy, entE (130 + i) til, rvy, CM.key (entE (130 + i) til), uy⟩ 0 := ⟨_, rfl⟩
              have O6 : OC w w6 B (CM.put c ⟨gy, entE (130 + i) til, rvy, CM.key (entE (130 + i) til), uy⟩ 0) := O6
              rw [← hc6] at O6 htell I7
              have HU6 := Lib.hid (show c6.uses = c.uses + 1 by rw [hc6]; rfl)
              have HT6 := Lib.hid (S6.touch HT5.out)
              have HO6 := Lib.hid O6
              have HTE := Lib.hid htell
              have HI7 := Lib.hid I7
              rw [hm] at h6
              subst h6
              clear S6 O6 hm hgy htell I7 hc6 hxa
              go_wp2_with fail
              refine (oget w w6 B c6 HO6.out ⟨#[1, 97, 0]⟩ (by decide) 1 1 til (by rw [HU6.out]; have := HI.out.2.2.2.1; have := HL.out.2; omega)).mono ?_
              rintro e w7 ⟨S7, H7⟩
              rw [show CM.tell c6 (ofBs (CM.keyB 0 (bs ⟨#[1, 97, 0]⟩) ((1 : Nat) : Int) ((1 : Nat) : Int))) til = some xa from HTE.out] at H7
              rcases H7 with ⟨h7, _⟩ | ⟨x7, a7, cp7, h7, rfl, _, O7⟩
              · cases h7
              obtain rfl := Option.some.inj h7
              have HT7 := Lib.hid (S7.touch HT6.out)
              have HB7 := Lib.hid (Blk.new w7 25 zeroE)
              obtain ⟨w8, hw8⟩ : ∃ W, W = (w7.alloc (.cells zeroE 25)).setRow w7.heap.size (entV xa.e (.slice a7 xa.e.recs.length cp7)) := ⟨_, rfl⟩
              have HO8 := Lib.hid (show OC w w8 B (CM.used c6 xa.g) by rw [hw8]; exact O7.laid _)
              have HT8 := Lib.hid (show Touch [] w w8 by rw [hw8]; exact HT7.out.trans (laid_t _ _) (by simp))
              have HW8 := Lib.hid hw8
              clear S7 O7 h7 hw8
              go_wp2_with (refine wpList_store_rowTo rfl 25 (.tmp 12) (.tmp 65) rfl rfl w7.heap.size (entV xa.e (.slice a7 xa.e.recs.length cp7)) rfl rfl 25 zeroE HB7.out (by kernel_rfl) rfl (entV_cells _ _ _ _) ?_; rw [← HW8.out])
              refine (olen w _ B _ HO8.out).mono ?_
              rintro e w9 ⟨rfl, rfl⟩
              have hlen : (((CM.used c6 xa.g).h.length : Nat) : Int) ≤ k + 2 := by
                have := HI7.out.inv.len
                unfold CM.room at this
                rw [HI7.out.most] at this
                have := HK.out
                omega
              obtain ⟨ln, hln⟩ : ∃ n, n = (CM.used c6 xa.g).h.length := ⟨_, rfl⟩
              rw [← hln] at hlen ⊢
              have hwr := HWR.out
              clear hln
              go_wp2_with fail
              go_roundw
              case rel => exact ⟨i + 1, _, by rw [hwr]; rfl, HL.out.1, by rw [show (CM.used c6 xa.g).uses = c6.uses + 1 from rfl, HU6.out]; have := HI.out.2.2.2.1; push_cast; omega, HI7.out, HO8.out, HT8.out⟩
              case measure => exact lt_sub_of (x := i + 1) (i := i) (by rw [hwr]; rfl) rfl (Nat.sub_lt_sub_left HL.out.1 (Nat.lt_succ_self i))
            · have hge : (n : Int) ≤ (i : Int) := by omega
              have hwt := HWT.out
              clear hlt hi
              go_wp2_with fail
              refine (oget w _ B c HI.out.2.1 ⟨#[1, 97, 0]⟩ (by decide) 1 1 (til + 1) (by have := HI.out.2.2.2.1; have := HI.out.2.2.2.2; have := HN.out; omega)).mono ?_
              rintro e w7 ⟨S7, H7⟩
              rw [show CM.tell c (ofBs (CM.keyB 0 (bs ⟨#[1, 97, 0]⟩) ((1 : Nat) : Int) ((1 : Nat) : Int))) (til + 1) = none from HI.out.1.over] at H7
              rcases H7 with ⟨_, rfl, O7⟩ | ⟨x7, a7, cp7, h7, _⟩
              rotate_left
              · cases h7
              have HT7 := Lib.hid (S7.touch HI.out.2.2.1)
              have HB7 := Lib.hid (Blk.new w7 25 zeroE)
              clear S7 O7
              go_wp2_with (refine wpList_store_rowTo rfl 25 (.tmp 14) (.tmp 80) rfl rfl w7.heap.size zeroE rfl rfl 25 zeroE HB7.out (by kernel_rfl) rfl (entV_cells ⟨0, ⟨#[]⟩, 0, 0, [], 0, 0, 0, 0⟩ none 0 0) ?_)
              go_ret
              exact ⟨rfl, HT7.out.trans (laid_t _ _) (by simp)⟩
end Go.Proofs.Ytibbfihnhlgkeaa

/- Rows of entries. -/
namespace Go.Proofs.Ytibbfihnhlgkeaa
open Go.RowKit Go.Maps Go.WideMaps
open NM (Bs bs ofBs)
open CM (It C)

def zE7 : CM.E := ⟨0, ⟨#[]⟩, 0, 0, [], 0, 0, 0, 0⟩
theorem small_in7 (w : World) (e : CM.E) (rv : Value) (h : ArgE w e rv) (W : World) (T : Touch [] w W) :
    Calls Try.prog 11 #[.agg (entV e rv)] W fun e1 w' => ∃ a c, e1 = .returned (.agg (entV (smallE e) (.slice a (smallE e).recs.length c))) ∧ w'.ownsRow W.heap.size 68 5 (.slice a (smallE e).recs.length c) (smallE e).recs.length (flat (smallE e).recs) ∧ Touch [] W w' := by
  refine (small_any W e rv (h.touch T)).mono ?_
  rintro e1 w' ⟨v, rfl, hown, t⟩
  obtain ⟨a, c, rfl⟩ := own_shape hown
  exact ⟨a, c, rfl, hown, t⟩
def opV (kd nw N : Int) (e : CM.E) (rv : Value) : Array Value := #[.int .i64 kd, .int .i64 nw, .int .i64 N, .int .i64 e.kind, .string e.name, .int .u16 e.type, .int .u16 e.cls, rv, .int .i64 e.til, .int .i64 e.rank, .int .i64 e.epoch, .int .i64 e.src]
def OpsC (w : World) (a : Option Addr) (len : Nat) : Prop := ∀ i, i < len → ∃ blk off kd nw N e rv, a = some ⟨blk, off, none⟩ ∧ (∀ j, j < 12 → w.cell? ⟨blk, off + (i * 12 + j), none⟩ = (opV kd nw N e rv)[j]?) ∧ ArgE w e rv
set_option maxRecDepth 10000 in
theorem Rd.cops {w : World} {a : Option Addr} {len cap : Nat} (h : Rd w 45 [.slice a len cap]) : len ≤ cap ∧ cap ≤ maxLen ∧ OpsC w a len := by
  obtain ⟨hl, hc, _, _, he⟩ := h.rows Try.underlying45 (m := 12) (by kernel_rfl) (by omega)
  refine ⟨hl, hc, fun i hi => ?_⟩
  obtain ⟨blk, off, cs, rfl, hlen, hcell, hrd⟩ := he i hi
  have c1 : Try.prog.cellsOf 3 = 1 := by kernel_rfl
  have c2 : Try.prog.cellsOf 25 = 9 := by kernel_rfl
  obtain ⟨_, hf⟩ := hrd.struct Try.underlying50
  match cs, hlen with
  | [x, y, z, x0, x1, x2, x3, x4, x5, x6, x7, x8], _ =>
    have f0 : Rd w 3 (([x, y, z, x0, x1, x2, x3, x4, x5, x6, x7, x8].drop 0).take (Try.prog.cellsOf 3)) := hf 0 _ rfl
    have f1 : Rd w 3 (([x, y, z, x0, x1, x2, x3, x4, x5, x6, x7, x8].drop 1).take (Try.prog.cellsOf 3)) := hf 1 _ rfl
    have f2 : Rd w 3 (([x, y, z, x0, x1, x2, x3, x4, x5, x6, x7, x8].drop 2).take (Try.prog.cellsOf 3)) := hf 2 _ rfl
    have f3 : Rd w 25 (([x, y, z, x0, x1, x2, x3, x4, x5, x6, x7, x8].drop 3).take (Try.prog.cellsOf 25)) := hf 3 _ rfl
    rw [c1] at f0 f1 f2
    rw [c2] at f3
    obtain ⟨kd, h0, _⟩ := Rd.int Try.underlying3 f0
    obtain ⟨nw, h1, _⟩ := Rd.int Try.underlying3 f1
    obtain ⟨N, h2, _⟩ := Rd.int Try.underlying3 f2
    obtain ⟨e, rv, h3, ha⟩ := f3.ent rfl
    simp [entV] at h0 h1 h2 h3
    obtain ⟨q0, q1, q2, q3, q4, q5, q6, q7, q8⟩ := h3
    subst h0 h1 h2 q0 q1 q2 q3 q4 q5 q6 q7 q8
    refine ⟨blk, off, kd, nw, N, e, _, rfl, fun j hj => ?_, ha⟩
    rw [hcell j hj, ← Array.getElem?_toList]
    rfl
def flatP (l : List (CM.E × Value)) : List Value := l.flatMap (fun p => (entV p.1 p.2).toList)
theorem flatP_length (l : List (CM.E × Value)) : (flatP l).length = l.length * 9 := by
  induction l with
  | nil => rfl
  | cons p l ih =>
    show ((entV p.1 p.2).toList ++ flatP l).length = _
    rw [List.length_append, ih, List.length_cons]
    show 9 + _ = _
    omega
theorem flatP_snoc (l : List (CM.E × Value)) (p : CM.E × Value) : flatP (l ++ [p]) = flatP l ++ (entV p.1 p.2).toList := by
  unfold flatP
  rw [List.flatMap_append]
  simp
theorem row_keep2 {w w' : World} {b size n : Nat} {t : TypeId} {x : Value} {xs : List Value} {b' size' n' : Nat} {t' : TypeId} {y : Value} {ys : List Value} (hr : w.ownsRow b t size x n xs) (hs : w.ownsRow b' t' size' y n' ys) (hne : t ≠ t') (T : Touch y.ownBlock.toList w w') : w'.ownsRow b t size x n xs := by
  refine trow_touch hr T (fun k hk hm => ?_)
  rw [Option.mem_toList] at hm
  rcases hr.2 with ⟨e, _⟩ | ⟨g, cap, cur, e, _, hg, _⟩
  · rw [e] at hk; cases hk
  · rw [e] at hk
    injection hk with hk
    subst hk
    rcases hs.2 with ⟨e, _⟩ | ⟨g2, cap2, cur2, e2, _, hg2, _⟩
    · rw [e] at hm; cases hm
    · rw [e2] at hm
      injection hm with hm
      subst hm
      exact Blk.ne_type (show Blk w g2 t cur from hg) (show Blk w g2 t' cur2 from hg2) hne rfl
theorem OC.rowt {w0 w w' : World} {B : Nat} {c : C} (h : OC w0 w B c) {b size n : Nat} {t : TypeId} {y : Value} {ys : List Value} (hs : w.ownsRow b t size y n ys) (h1 : t ≠ 61) (h2 : t ≠ 74) (h3 : t ≠ 77) (h4 : t ≠ 68) (T : Touch y.ownBlock.toList w w') : OC w0 w' B c := by
  rcases hs.2 with ⟨e, _⟩ | ⟨g, cap, cur, e, _, hg, _⟩
  · rw [e] at T
    exact h.quiet T
  · rw [e] at T
    exact h.touch1 (show Blk w g t cur from hg) h1 h2 h3 h4 T
/-- the cache and the law's four rows -/
theorem own_n {W : World} {b size n k : Nat} {t : TypeId} {x : Value} {xs : List Value} (h : W.ownsRow b t size x n xs) (e : n = k) : W.ownsRow b t size x k xs := e ▸ h
theorem own_t {w wr w' : World} {size n : Nat} {t : TypeId} {y : Value} {ys : List Value} (h : Touch [] w wr) (hs : wr.ownsRow w.heap.size t size y n ys) (T : Touch y.ownBlock.toList wr w') : Touch [] w w' :=
  h.trans T (fun k hk => .inr (hs.lt k (by simpa using hk)).1)
theorem blk_keep {w w' : World} {k : Nat} {t : TypeId} {cs : Array Value} {b' size' n' : Nat} {t' : TypeId} {y : Value} {ys : List Value} (hb : Blk w k t cs) (hs : w.ownsRow b' t' size' y n' ys) (hne : t ≠ t') (T : Touch y.ownBlock.toList w w') : Blk w' k t cs := by
  refine T.blk hb (fun hm => ?_)
  rw [Option.mem_toList] at hm
  rcases hs.2 with ⟨e, _⟩ | ⟨g2, cap2, cur2, e2, _, hg2, _⟩
  · rw [e] at hm; cases hm
  · rw [e2] at hm
    injection hm with hm
    subst hm
    exact Blk.ne_type hb (show Blk w g2 t' cur2 from hg2) hne rfl
theorem row_news (W : World) (cs : Array Value) (t : TypeId) (ad : Addr) (had : ad = ⟨W.heap.size, 0, none⟩) : ∀ j u, cs.toList[j]? = some u → (W.alloc (.cells cs t)).cell? (ad.add j) = some u := by
  intro j u h
  subst had
  rw [Array.getElem?_toList] at h
  have := (Blk.new W t cs).cell j
  rw [show (⟨W.heap.size, 0, none⟩ : Addr).add j = ⟨W.heap.size, j, none⟩ by simp [Addr.add]; intro h; exact h.symm, this, h]
theorem ent_one (e : CM.E) (a : Option Addr) (n c : Nat) : ∀ u ∈ (entV e (.slice a n c)).toList, u.oneCell' = true := by
  intro u hu
  have h := entV_cells e a n c
  rw [← Array.all_toList] at h
  exact List.all_eq_true.1 h u hu
theorem row_at {W : World} {b size n c k : Nat} {t : TypeId} {a : Option Addr} {xs : List Value} (h : W.ownsRow b t size (.slice a n c) k xs) (hn : 0 < n) : ∃ g, a = some ⟨g, 0, none⟩ ∧ ∀ j u, xs[j]? = some u → W.cell? ⟨g, j, none⟩ = some u := by
  rcases h.2 with ⟨e, _⟩ | ⟨g, cap, cur, e, _⟩
  · injection e with _ e2 _
    omega
  · injection e with e1 e2 e3
    refine ⟨g, e1, fun j u hj => ?_⟩
    subst e1
    have := h.cells (g := g) rfl j u hj
    rw [show (⟨g, 0, none⟩ : Addr).add j = ⟨g, j, none⟩ by simp [Addr.add]; intro h; exact h.symm] at this
    exact this
theorem any_succ {α : Type} (F : List α) (p : α → Bool) (j : Nat) (h : j < F.length) : (F.take (j + 1)).any p = ((F.take j).any p || p F[j]) := by
  rw [List.take_succ_eq_append_getElem h, List.any_append]
  simp
theorem infoCached : (Try.prog.info? 25).map (fun i => (i.zero, i.size, i.bytes)) = some (some (.agg zeroE), 9, 88) := by kernel_rfl
theorem infoInt : (Try.prog.info? 3).map (fun i => (i.zero, i.size, i.bytes)) = some (some (.int .i64 0), 1, 8) := by kernel_rfl
theorem flatP_get (P : List (CM.E × Value)) : ∀ (k : Nat) (hk : k < P.length) (j : Nat), j < 9 → (flatP P)[k * 9 + j]? = (entV P[k].1 P[k].2).toList[j]? := by
  induction P with
  | nil => intro k hk; cases hk
  | cons p P ih =>
    intro k hk j hj
    have e : flatP (p :: P) = (entV p.1 p.2).toList ++ flatP P := rfl
    have hl : (entV p.1 p.2).toList.length = 9 := rfl
    rw [e]
    cases k with
    | zero =>
      rw [List.getElem?_append_left (by rw [hl]; omega)]
      simp
    | succ k =>
      rw [List.getElem?_append_right (by rw [hl]; omega), hl, show (k + 1) * 9 + j - 9 = k * 9 + j by omega, ih k (by simp at hk; omega) j hj]
      rfl
end Go.Proofs.Ytibbfihnhlgkeaa

/- CacheBounds: the calls, and what the law keeps. -/
namespace Go.Proofs.Ytibbfihnhlgkeaa
open Go.RowKit Go.Maps Go.WideMaps
open NM (Bs bs ofBs)
open CM (It C)

theorem flush_inv {c : C} (I : CM.Inv c) {l' : List It} (f : It → Bool) (hnd : (l'.map It.g).Nodup) (hm : ∀ y, y ∈ l' ↔ y ∈ c.h ∧ f y = false) : CM.Inv ⟨c.most, c.uses, l'⟩ := by
  have n1 : ∀ l : List It, (l.map It.g).Nodup → l.Nodup := fun l h => List.Pairwise.of_map It.g (fun a b hne e => hne (by rw [e])) h
  have hp : l'.Perm (c.h.filter (fun y => !f y)) := (List.perm_ext_iff_of_nodup (n1 _ hnd) ((n1 _ I.gs).filter _)).2 (fun y => by rw [hm y, List.mem_filter]; simp)
  refine ⟨((hp.map It.key).nodup_iff).2 (I.keys.sublist (List.filter_sublist.map It.key)), hnd, ((hp.map It.used).nodup_iff).2 (I.useds.sublist (List.filter_sublist.map It.used)), fun x hx => I.le x ((hm x).1 hx).1, ?_, fun x hx => I.key x ((hm x).1 hx).1⟩
  have h1 := hp.length_eq
  have h2 := List.length_filter_le (fun y => !f y) c.h
  have h3 := I.len
  show (l'.length : Int) ≤ CM.room c
  omega
theorem oflush (w0 w : World) (B : Nat) (c : C) (h : OC w0 w B c) (z : ByteArray) (hz : z.size ≤ 1099511627776) (ep : Int) :
    Calls Try.prog 24 #[.pointer (some ⟨B, 0, none⟩), .string z, .int .i64 ep] w fun e w' => ∃ (n : Nat) (l' : List It), e = .returned (.int .i64 (n : Int)) ∧ OC w0 w' B ⟨c.most, c.uses, l'⟩ ∧ CStep w0 w w' ∧ (∀ y, y ∈ l' ↔ y ∈ c.h ∧ flushed z ep y = false) := by
  obtain ⟨mo, v, hk, hfo⟩ := h.ex
  refine (flush_any w B mo v c.most c.uses c.h hk z hz ep h.len).mono ?_
  rintro e w' ⟨n, v', l', rfl, hk', t, hvo, hm, hn⟩
  exact ⟨n, l', rfl, ⟨⟨mo, v', hk', fun q hq => hfo q (cfoot_sub hvo (fun y hy => ((hm y).1 hy).1) q hq)⟩, flush_inv h.inv _ hk'.hp.gs hm, h.uses, h.most⟩, CStep.of_k hk hfo t, hm⟩
theorem ogetB (w0 w : World) (B : Nat) (c : C) (h : OC w0 w B c) (n : ByteArray) (hn : n.size ≤ 1000000000000) (t cl : Int) (ht : 0 ≤ t ∧ t ≤ 65535) (hc : 0 ≤ cl ∧ cl ≤ 65535) (now : Int) (hu : c.uses ≤ 1099511627776) :
    Calls Try.prog 19 #[.pointer (some ⟨B, 0, none⟩), .string n, .int .u16 t, .int .u16 cl, .int .i64 now] w fun e w' => ∃ (E : CM.E) (a : Option Addr) (cp : Nat) (is : Bool) (c' : C), e = .returned (.tuple #[.agg (entV E (.slice a E.recs.length cp)), .bool is]) ∧
      (is = true → now ≤ E.til ∧ ∃ x ∈ c.h, x.e = E) ∧ w'.ownsRow 0 68 5 (.slice a E.recs.length cp) E.recs.length (flat E.recs) ∧ OC w0 w' B c' ∧ c'.most = c.most ∧ c'.uses ≤ c.uses + 1 ∧ (∀ x ∈ c'.h, ∃ y ∈ c.h, y.e = x.e) ∧ CStep w0 w w' ∧ E.recs.length ≤ 64 := by
  obtain ⟨t, rfl⟩ := Int.eq_ofNat_of_zero_le ht.1
  obtain ⟨cl, rfl⟩ := Int.eq_ofNat_of_zero_le hc.1
  refine (oget w0 w B c h n hn t cl now hu).mono ?_
  rintro e w' ⟨S, H⟩
  rcases H with ⟨h1, h2, h3⟩ | ⟨x, a, cp, h1, h2, h3, h4⟩
  · exact ⟨zE7, none, 0, false, c, h2, by simp, World.ownsRow_nil _ _ _ _, h3, rfl, by omega, fun x hx => ⟨x, hx, rfl⟩, S, by show (0 : Nat) ≤ 64; omega⟩
  · have ht := CM.tell_some h1
    refine ⟨x.e, a, cp, true, CM.used c x.g, h2, fun _ => ⟨ht.2.2, x, ht.1, rfl⟩, trow_base h3 (Nat.zero_le _), h4, rfl, Int.le_refl _, fun y hy => ?_, S, (check_name (h.inv.key x ht.1).2).2.1⟩
    obtain ⟨q, hq, rfl⟩ := CM.used_mem hy
    refine ⟨q, hq, ?_⟩
    split <;> rfl
/-- a call of the script -/
structure BR (w wr : World) (B : Nat) (c : C) (P : List (CM.E × Value)) (Zs Es Ws : List Value) (vp vz ve vw : Value) : Prop where
  oc : OC w wr B c
  t : Touch [] w wr
  rp : wr.ownsRow w.heap.size 25 9 vp P.length (flatP P)
  rz : wr.ownsRow w.heap.size 9 1 vz Zs.length Zs
  re : wr.ownsRow w.heap.size 3 1 ve Es.length Es
  rw : wr.ownsRow w.heap.size 3 1 vw Ws.length Ws
  ne : ∀ k, ve.ownBlock = some k → vw.ownBlock = some k → False
  rr : ∀ p ∈ P, wr.ownsRow 0 68 5 p.2 p.1.recs.length (flat p.1.recs)
section
variable {w wr w' : World} {B : Nat} {c c' : C} {P : List (CM.E × Value)} {Zs Es Ws : List Value} {vp vz ve vw v' : Value}
theorem BR.quiet (h : BR w wr B c P Zs Es Ws vp vz ve vw) (T : Touch [] wr w') : BR w w' B c P Zs Es Ws vp vz ve vw :=
  ⟨h.oc.quiet T, h.t.trans T (by simp), trow_touch h.rp T (by simp), trow_touch h.rz T (by simp), trow_touch h.re T (by simp), trow_touch h.rw T (by simp), h.ne, fun p hp => trow_touch (h.rr p hp) T (by simp)⟩
theorem BR.step (h : BR w wr B c P Zs Es Ws vp vz ve vw) (S : CStep w wr w') (O : OC w w' B c') : BR w w' B c' P Zs Es Ws vp vz ve vw :=
  ⟨O, S.touch h.t, S.row h.rp (by decide) (by decide) (by decide), S.row h.rz (by decide) (by decide) (by decide), S.row h.re (by decide) (by decide) (by decide), S.row h.rw (by decide) (by decide) (by decide), h.ne, fun p hp => S.row (h.rr p hp) (by decide) (by decide) (by decide)⟩
theorem BR.pushZ (h : BR w wr B c P Zs Es Ws vp vz ve vw) {z : Value} (ho : w'.ownsRow w.heap.size 9 1 v' (Zs.length + 1) (Zs ++ [z])) (T : Touch vz.ownBlock.toList wr w') : BR w w' B c P (Zs ++ [z]) Es Ws vp v' ve vw :=
  ⟨h.oc.rowt h.rz (by decide) (by decide) (by decide) (by decide) T, own_t h.t h.rz T, row_keep2 h.rp h.rz (by decide) T, by rw [List.length_append]; exact ho, row_keep2 h.re h.rz (by decide) T, row_keep2 h.rw h.rz (by decide) T, h.ne, fun p hp => row_keep2 (h.rr p hp) h.rz (by decide) T⟩
theorem BR.pushE (h : BR w wr B c P Zs Es Ws vp vz ve vw) {z : Value} (ho : w'.ownsRow w.heap.size 3 1 v' (Es.length + 1) (Es ++ [z])) (T : Touch ve.ownBlock.toList wr w') (s : Nat) (hs : wr.heap.size ≤ s) (hat : v'.ownBlock = ve.ownBlock ∨ v'.ownBlock = some s) : BR w w' B c P Zs (Es ++ [z]) Ws vp vz v' vw :=
  ⟨h.oc.rowt h.re (by decide) (by decide) (by decide) (by decide) T, own_t h.t h.re T, row_keep2 h.rp h.re (by decide) T, row_keep2 h.rz h.re (by decide) T, by rw [List.length_append]; exact ho, trow_touch h.rw T (fun k hk hm => h.ne k (by simpa using hm) hk), fun k h1 h2 => by
    rcases hat with e | e
    · exact h.ne k (by rw [← e]; exact h1) h2
    · have := (h.rw.lt k h2).2
      rw [e] at h1
      cases h1
      omega, fun p hp => row_keep2 (h.rr p hp) h.re (by decide) T⟩
theorem BR.pushW (h : BR w wr B c P Zs Es Ws vp vz ve vw) {z : Value} (ho : w'.ownsRow w.heap.size 3 1 v' (Ws.length + 1) (Ws ++ [z])) (T : Touch vw.ownBlock.toList wr w') (s : Nat) (hs : wr.heap.size ≤ s) (hat : v'.ownBlock = vw.ownBlock ∨ v'.ownBlock = some s) : BR w w' B c P Zs Es (Ws ++ [z]) vp vz ve v' :=
  ⟨h.oc.rowt h.rw (by decide) (by decide) (by decide) (by decide) T, own_t h.t h.rw T, row_keep2 h.rp h.rw (by decide) T, row_keep2 h.rz h.rw (by decide) T, trow_touch h.re T (fun k hk hm => h.ne k hk (by simpa using hm)), by rw [List.length_append]; exact ho, fun k h1 h2 => by
    rcases hat with e | e
    · exact h.ne k h1 (by rw [← e]; exact h2)
    · have := (h.re.lt k h1).2
      rw [e] at h2
      cases h2
      omega, fun p hp => row_keep2 (h.rr p hp) h.rw (by decide) T⟩
theorem BR.pushP (h : BR w wr B c P Zs Es Ws vp vz ve vw) {p : CM.E × Value} (ho : w'.ownsRow w.heap.size 25 9 v' (P.length + 1) (flatP P ++ (entV p.1 p.2).toList)) (T : Touch vp.ownBlock.toList wr w') (hp : wr.ownsRow 0 68 5 p.2 p.1.recs.length (flat p.1.recs)) : BR w w' B c (P ++ [p]) Zs Es Ws v' vz ve vw :=
  ⟨h.oc.rowt h.rp (by decide) (by decide) (by decide) (by decide) T, own_t h.t h.rp T, by rw [flatP_snoc, List.length_append]; exact ho, row_keep2 h.rz h.rp (by decide) T, row_keep2 h.re h.rp (by decide) T, row_keep2 h.rw h.rp (by decide) T, h.ne, fun q hq => by
    rcases List.mem_append.1 hq with hq | hq
    · exact row_keep2 (h.rr q hq) h.rp (by decide) T
    · simp only [List.mem_cons, List.not_mem_nil, or_false] at hq
      subst hq
      exact row_keep2 hp h.rp (by decide) T⟩
end
/-- was an entry that was put as the k-th flushed by f? -/
def flOf (E : CM.E) (k : Nat) (f : ByteArray × Int × Nat) : Bool := NM.under (bs E.name) (bs f.1) && decide (E.epoch < f.2.1) && decide (k < f.2.2)
def Seen (P : List (CM.E × Value)) (F : List (ByteArray × Int × Nat)) (e : CM.E) : Prop := ∃ k, ∃ hk : k < P.length, P[k].1 = e ∧ ∀ f ∈ F, flOf e k f = false
structure BN (w wr : World) (B : Nat) (m : Int) (i : Nat) (c : C) (P : List (CM.E × Value)) (F : List (ByteArray × Int × Nat)) (vp vz ve vw : Value) : Prop where
  br : BR w wr B c P (F.map (fun f => .string f.1)) (F.map (fun f => .int .i64 f.2.1)) (F.map (fun f => .int .i64 (f.2.2 : Int))) vp vz ve vw
  most : c.most = m
  uses : c.uses ≤ i
  lp : P.length ≤ i
  lf : F.length ≤ i
  zs : ∀ f ∈ F, f.1.size ≤ 300 ∧ f.2.2 ≤ P.length
  pl : ∀ p ∈ P, p.1.recs.length ≤ 70 ∧ p.1.name.size ≤ 300
  good : ∀ x ∈ c.h, Seen P F x.e
section
variable {w wr w' : World} {B : Nat} {m : Int} {i : Nat} {c c' : C} {P : List (CM.E × Value)} {F : List (ByteArray × Int × Nat)} {vp vz ve vw v1 v2 v3 : Value}
theorem BN.quiet (h : BN w wr B m i c P F vp vz ve vw) (T : Touch [] wr w') : BN w w' B m i c P F vp vz ve vw := ⟨h.br.quiet T, h.most, h.uses, h.lp, h.lf, h.zs, h.pl, h.good⟩
theorem BN.same (h : BN w wr B m i c P F vp vz ve vw) (S : CStep w wr w') (O : OC w w' B c') (hm : c'.most = c.most) (hu : c'.uses ≤ c.uses + 1) (hs : ∀ x ∈ c'.h, ∃ y ∈ c.h, y.e = x.e) : BN w w' B m (i + 1) c' P F vp vz ve vw :=
  ⟨h.br.step S O, by rw [hm, h.most], by have := h.uses; push_cast; omega, by have := h.lp; omega, by have := h.lf; omega, h.zs, h.pl, fun x hx => by
    obtain ⟨y, hy, e⟩ := hs x hx
    rw [← e]
    exact h.good y hy⟩
theorem BN.flush (h : BN w wr B m i c P F vp vz ve vw) {l' : List It} {z : ByteArray} {N : Int} {np : Nat} (hnp : np = P.length) (hz : z.size ≤ 300) (hl : ∀ y, y ∈ l' ↔ y ∈ c.h ∧ flushed z N y = false)
    (hb : BR w w' B ⟨c.most, c.uses, l'⟩ P (F.map (fun f => .string f.1) ++ [.string z]) (F.map (fun f => .int .i64 f.2.1) ++ [.int .i64 N]) (F.map (fun f => .int .i64 (f.2.2 : Int)) ++ [.int .i64 (np : Int)]) vp v1 v2 v3) :
    BN w w' B m (i + 1) ⟨c.most, c.uses, l'⟩ P (F ++ [(z, N, np)]) vp v1 v2 v3 := by
  subst hnp
  exact ⟨by simp only [List.map_append, List.map_cons, List.map_nil]; exact hb, h.most, by have := h.uses; show c.uses ≤ _; push_cast; omega, by have := h.lp; omega, by have := h.lf; rw [List.length_append]; simp; omega, fun f hf => by
    rcases List.mem_append.1 hf with hf | hf
    · exact h.zs f hf
    · simp only [List.mem_cons, List.not_mem_nil, or_false] at hf
      subst hf
      exact ⟨hz, Nat.le_refl _⟩, h.pl, fun x hx => by
    obtain ⟨h1, h2⟩ := (hl x).1 hx
    obtain ⟨k, hk, e, hF⟩ := h.good x h1
    refine ⟨k, hk, e, fun f hf => ?_⟩
    rcases List.mem_append.1 hf with hf | hf
    · exact hF f hf
    · simp only [List.mem_cons, List.not_mem_nil, or_false] at hf
      subst hf
      unfold flushed at h2
      unfold flOf
      simp only [Bool.and_eq_false_iff] at h2 ⊢
      rcases h2 with h2 | h2
      · exact .inl (.inr h2)
      · exact .inl (.inl h2)⟩
theorem BN.put (h : BN w wr B m i c P F vp vz ve vw) {x : It} {now : Int} {p : CM.E × Value} (hx : x.e = p.1) (hg : ∀ y ∈ c.h, y.g ≠ x.g) (hp : p.1.recs.length ≤ 70 ∧ p.1.name.size ≤ 300)
    (hb : BR w w' B (CM.put c x now) (P ++ [p]) (F.map (fun f => .string f.1)) (F.map (fun f => .int .i64 f.2.1)) (F.map (fun f => .int .i64 (f.2.2 : Int))) v1 vz ve vw) :
    BN w w' B m (i + 1) (CM.put c x now) (P ++ [p]) F v1 vz ve vw :=
  ⟨hb, h.most, by have := h.uses; show c.uses + 1 ≤ _; push_cast; omega, by have := h.lp; rw [List.length_append]; simp; omega, by have := h.lf; omega, fun f hf => ⟨(h.zs f hf).1, by have := (h.zs f hf).2; rw [List.length_append]; simp; omega⟩, fun q hq => by
    rcases List.mem_append.1 hq with hq | hq
    · exact h.pl q hq
    · simp only [List.mem_cons, List.not_mem_nil, or_false] at hq
      subst hq
      exact hp, fun y hy => by
    rcases h.br.oc.inv.put_mem x now hg h.br.oc.uses hy with rfl | ⟨h1, _⟩
    · refine ⟨P.length, by rw [List.length_append]; simp, by rw [List.getElem_append_right (Nat.le_refl _)]; simp [hx], fun f hf => ?_⟩
      unfold flOf
      rw [Bool.and_eq_false_iff]
      exact .inr (decide_eq_false (by have := (h.zs f hf).2; omega))
    · obtain ⟨k, hk, e, hF⟩ := h.good y h1
      exact ⟨k, by rw [List.length_append]; omega, by rw [List.getElem_append_left hk]; exact e, hF⟩⟩
end
theorem BN.len {w wr : World} {B : Nat} {m : Int} {i : Nat} {c : C} {P : List (CM.E × Value)} {F : List (ByteArray × Int × Nat)} {vp vz ve vw : Value} (h : BN w wr B m i c P F vp vz ve vw) (hm : 1 ≤ m ∧ m ≤ 20) : ∃ n : Nat, (n : Int) ≤ m ∧ Calls Try.prog 20 #[.pointer (some ⟨B, 0, none⟩)] wr fun e w' => e = .returned (.int .i64 (n : Int)) ∧ w' = wr := by
  refine ⟨_, ?_, olen w wr B c h.br.oc⟩
  have := h.br.oc.inv.len
  unfold CM.room at this
  rw [h.most] at this
  omega
end Go.Proofs.Ytibbfihnhlgkeaa

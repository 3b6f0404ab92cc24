/- All's walk: the keys of the map, sorted, those that are alive. -/
import Derived.Test.YtknkomnhfkbmiaaShelf
import Derived.Test.YtknkomnhfkbmiaaBeatNil
import Derived.Laws.EntriesVeiled
namespace Go.Proofs.Ytknkomnhfkbmiaa
open Go.RowKit Go.Maps Go.Sort Go.Shelf Go.Lib

theorem sortsI (m : Nat) : AnyZI.SortsIn Try.prog Try.sortedI_ren Fence.wide m :=
  ⟨fun blk off cap ss W hH hblk hsz => callsIn_wide.2 (AnyM.slices_Sort_int Try.sortI blk off cap ss W hH hblk hsz),
   fun p cap W => callsIn_wide.2 (AnyM.slices_Sort_int_none Try.sortI p cap W)⟩

/-- a slice value that holds these ints -/
def SliceI (w : World) (a : Option Addr) (ss : List Int) : Prop :=
  ss = [] ∨ ∃ g, a = some ⟨g, 0, none⟩ ∧ ∀ (i : Nat) (h : i < ss.length), w.cell? ⟨g, i, none⟩ = some (.int .i64 ss[i])

def AllEnd (L : Int) (f : Int → Option Int) (now : Int) (w : World) (e : Ending) (w' : World) : Prop :=
  ∃ (a : Option Addr) (cap : Nat) (ss : List Int), e = .returned (.slice a ss.length cap) ∧ SliceI w' a ss ∧ ss.Pairwise (· < ·) ∧ (∀ k, k ∈ ss ↔ aliveB L f k now = true) ∧ Touch [] w w'

abbrev I64 := { x : Int // (Lit.int .i64 x).wf = true }
instance : Inhabited I64 := ⟨⟨0, by decide⟩⟩
def encI (x : I64) : Value := .int .i64 x.1

theorem touch_putRow {α : Type} [Inhabited α] (enc : α → Value) (w : World) (blk off q : Nat) (d : Array α) : Touch [blk] w (putRow enc (Sort.ahead w q) blk off d) :=
  ⟨rfl, rfl, rfl, by simp [Sort.ahead], fun k _ hn => by
    simp only [putRow, mapBlock, Array.getElem?_modify, Sort.ahead]
    rw [if_neg (by simp at hn; omega)]⟩
theorem touch_sortWorld {α : Type} [Inhabited α] (enc : α → Value) (w : World) (blk off q : Nat) (d : Array α) (os : Array Obj) : Touch [blk] w (sortWorld enc w blk off q d os) := by
  have h := touch_putRow enc w blk off q d
  refine ⟨rfl, rfl, rfl, Nat.le_trans h.size (by simp [sortWorld, Sort.grow]), fun k hk hn => ?_⟩
  unfold sortWorld
  rw [Sort.heap_grow_old _ _ (Nat.lt_of_lt_of_le hk h.size)]
  exact h.block k hk hn

theorem lift64 : ∀ l : List Int, (∀ x ∈ l, (Lit.int .i64 x).wf = true) → ∃ d : List I64, d.map (·.1) = l
  | [], _ => ⟨[], rfl⟩
  | x :: l, h => by
    obtain ⟨d, hd⟩ := lift64 l (fun y hy => h y (by simp [hy]))
    exact ⟨⟨x, h x (by simp)⟩ :: d, by simp [hd]⟩

/-- slices.DeleteFunc at nil -/
theorem del_nil (fv : Value) (w : World) : Calls Try.prog 23 #[.slice none 0 0, fv] w fun e w' => e = .returned (.slice none 0 0) ∧ w' = w := by
  have hI := AnyE.slices_IndexFunc_empty (P := Try.prog) (ρ := Try.delI_ren) { Try.delI with } none 0 fv w
  change Calls Try.prog 27 _ _ _ at hI
  go_enter Try.func23, Try.ntmps23
  go_wp2_with (go_at_call 27; refine hI.mono ?_; rintro e w' ⟨rfl, rfl⟩)
  go_ret
  exact ⟨rfl, rfl⟩

set_option maxHeartbeats 1000000 in
/-- slices.DeleteFunc with All's closure, at a slice of sorted numbers -/
theorem del_alive (w : World) (A N b g cap : Nat) (mo : Option Nat) (L : Int) (n : Nat) (f : Int → Option Int) (h : BeatAt w b mo L n f) (now : Int) (ss : List Int) (hws : ∀ x ∈ ss, (Lit.int .i64 x).wf = true) (cur : Array Value)
    (hA : Blk w A 30 #[.func (.func 18) #[.pointer (some ⟨b, 0, none⟩)] #[]]) (hN : Blk w N 3 #[.int .i64 now])
    (hg : Blk w g 3 cur) (ht : cur.toList.take ss.length = ss.map (Value.int .i64)) (hcap : ss.length ≤ cap) (hlen : ss.length < 1000000000)
    (hgA : g ≠ A) (hgN : g ≠ N) (hgb : g ≠ b) (hgm : ∀ m, mo = some m → g ≠ m) :
    Calls Try.prog 23 #[.slice (some ⟨g, 0, none⟩) ss.length cap, .func (.func 26) #[] #[.pointer (some ⟨A, 0, none⟩), .pointer (some ⟨N, 0, none⟩)]] w fun e w' =>
      e = .returned (.slice (some ⟨g, 0, none⟩) (ss.filter fun x => aliveB L f x now).length cap) ∧
      (∀ (i : Nat) (hi : i < (ss.filter fun x => aliveB L f x now).length), w'.cell? ⟨g, i, none⟩ = some (.int .i64 (ss.filter fun x => aliveB L f x now)[i])) ∧ Touch [g] w w' := by
  obtain ⟨d, hd⟩ := lift64 ss hws
  have hdl : d.length = ss.length := by rw [← hd]; simp
  have hH : Holds encI w g 0 d.toArray := by
    intro j hj
    have hj' : j < d.length := by simpa using hj
    have hjs : j < ss.length := by omega
    refine ⟨?_, by have := hg.frozen (0 + j); exact this⟩
    rw [Nat.zero_add, hg.cell j]
    have h1 : (cur.toList.take ss.length)[j]? = (ss.map (Value.int .i64))[j]? := by rw [ht]
    rw [List.getElem?_take_of_lt hjs] at h1
    rw [← Array.getElem?_toList, h1]
    subst hd
    rw [getElem!_pos d.toArray j (by simpa using hj')]
    simp [encI, hj']
  have pred : ∀ (S : List Nat) (W : World) (x : I64), Touch S w W → A ∉ S → N ∉ S → b ∉ S → (∀ m, mo = some m → m ∉ S) →
      FnGives Try.prog 26 #[.pointer (some ⟨A, 0, none⟩), .pointer (some ⟨N, 0, none⟩)] #[encI x] (.bool (!aliveB L f x.1 now)) W := by
    intro S W x hT h1 h2 h3 h4
    have := all1_any W A N b mo L n f (h.touch hT h3 h4) x.1 now x.2 ((hT.blk hA h1).cell 0) ((hT.blk hN h2).cell 0)
    exact this
  have eg : ∀ args w, (callFunc 26 args).run Try.prog w = .ok (.enter 26 args) w := enters_of Try.func26 (by kernel_rfl) rfl
  have hcon := AnyE.slices_DeleteFunc Try.delI encI (fun _ => rfl) (fun x => !aliveB L f x.1 now) 26 #[.pointer (some ⟨A, 0, none⟩), .pointer (some ⟨N, 0, none⟩)] eg ⟨0, by decide⟩ Try.zeroValue3 g 0 cap d.toArray w
    (fun W x hb => pred [] W x (Touch.of_below hb) (by simp) (by simp) (by simp) (by simp))
    (fun m os dk x _ => pred [g] _ x (touch_sortWorld encI w g 0 m dk os) (by simp; omega) (by simp; omega) (by simp; omega) (by intro m hm; have := hgm m hm; simp; omega))
    hH (by simp; omega) (by simp; omega)
  change Calls Try.prog 23 _ _ _ at hcon
  simp only [List.size_toArray, hdl, Bool.not_not] at hcon
  have hfl : (d.filter fun x => aliveB L f x.1 now).map (·.1) = ss.filter fun x => aliveB L f x now := by
    rw [← hd, List.filter_map]; rfl
  have hfll : (d.filter fun x => aliveB L f x.1 now).length = (ss.filter fun x => aliveB L f x now).length := by rw [← hfl, List.length_map]
  refine hcon.mono ?_
  rintro e w' ⟨rfl, q, rfl⟩
  refine ⟨by rw [hfll], fun i hi => ?_, touch_putRow encI w g 0 q _⟩
  have hle : (d.filter fun x => aliveB L f x.1 now).length ≤ d.length := List.length_filter_le _ _
  have hi' : i < (d.filter fun x => aliveB L f x.1 now).length := by omega
  have hc := cell?_putRow encI (Sort.ahead w q) g 0 d.toArray ((d.filter fun x => aliveB L f x.1 now) ++ List.replicate (ss.length - (d.filter fun x => aliveB L f x.1 now).length) (⟨0, by decide⟩ : I64)).toArray hH (by simp; omega) i (by simp; omega)
  rw [Nat.zero_add] at hc
  rw [hc]
  congr 1
  rw [getElem!_pos _ i (by simp; omega)]
  simp only [List.getElem_toArray, List.getElem_append_left hi', encI]
  congr 1
  have : (ss.filter fun x => aliveB L f x now)[i]? = ((d.filter fun x => aliveB L f x.1 now).map (·.1))[i]? := by rw [hfl]
  rw [List.getElem?_eq_getElem hi, List.getElem?_map, List.getElem?_eq_getElem hi'] at this
  simpa using this.symm

theorem aliveB_none' (L : Int) (f : Int → Option Int) (k x : Int) (hf : f k = none) : aliveB L f k x = false := by
  unfold aliveB; rw [hf]
theorem sorted_lt : ∀ {l : List Int}, l.Nodup → l.Pairwise (fun x y => decide (x ≤ y) = true) → l.Pairwise (· < ·)
  | [], _, _ => List.Pairwise.nil
  | x :: l, hn, hp => by
    rw [List.nodup_cons] at hn
    rw [List.pairwise_cons] at hp ⊢
    refine ⟨fun y hy => ?_, sorted_lt hn.2 hp.2⟩
    have h1 := hp.1 y hy
    have h2 : x ≠ y := fun e => hn.1 (e ▸ hy)
    simp at h1
    omega

/-- the keys of the map, as a list -/
theorem keys_of {w : World} {mb n : Nat} {D : DataW Unit} {f : Int → Option Int} (hown : w.ownsMap Try.prog 3 (plainElem Try.prog 3) mb n D) (hv : View D f) :
    (∀ x, x ∈ intKeys D ↔ f x ≠ none) ∧ (intKeys D).Nodup ∧ (intKeys D).length = Maps.size D := by
  have hkey : ∀ (es : List (Lit × DataW Unit)), D = .map es → ∀ p ∈ es, ∃ x, p.1 = .int .i64 x := by
    obtain ⟨es, clock, hb, F, _, hD⟩ := hown
    intro es' he p hp
    rw [hD] at he
    injection he with he
    rw [← he, mem_sorted, List.mem_map] at hp
    obtain ⟨x, hx, rfl⟩ := hp
    obtain ⟨v, hv⟩ := (fit_keys F) _ (List.mem_map.2 ⟨x, hx, rfl⟩)
    obtain ⟨a, _, h2, _⟩ := Maps.keyOf_int_inv Try.underlying3 hv
    exact ⟨a, h2⟩
  obtain ⟨es, rfl, hap, _⟩ := hown.entries kint
  have hk := hkey es rfl
  refine ⟨fun x => ?_, ?_, by simp [intKeys, Maps.size]⟩
  · have h1 := hv.has x
    rw [has_eq] at h1
    constructor
    · intro hx h0
      rw [h0] at h1
      obtain ⟨p, hp, rfl⟩ := List.mem_map.1 hx
      obtain ⟨a, ha⟩ := hk p hp
      have : es.any (fun q => q.1.sameKey (.int .i64 (Go.intOf p.1))) = true := List.any_eq_true.2 ⟨p, hp, by rw [ha]; simp [Lit.sameKey, Go.intOf]⟩
      rw [this] at h1
      cases h1
    · intro h0
      have : (f x).isSome = true := by cases hfx : f x <;> simp_all
      rw [this] at h1
      obtain ⟨p, hp, hs⟩ := List.any_eq_true.1 h1
      obtain ⟨a, ha⟩ := hk p hp
      rw [ha] at hs
      refine List.mem_map.2 ⟨p, hp, ?_⟩
      rw [ha]
      simpa [Lit.sameKey, Go.intOf] using hs
  · show (es.map fun p => Go.intOf p.1).Nodup
    refine List.pairwise_map.2 (hap.imp_of_mem fun {p q} hp' hq' hne e => hne ?_)
    obtain ⟨a, ha⟩ := hk p hp'
    obtain ⟨c, hc⟩ := hk q hq'
    rw [ha, hc] at e ⊢
    exact congrArg _ e

set_option maxRecDepth 100000 in
set_option maxHeartbeats 2000000 in
theorem all_some (w : World) (b mb : Nat) (L : Int) (n : Nat) (f : Int → Option Int) (h : BeatAt w b (some mb) L n f) (hn : n < 1000000) (now : Int) :
    Calls Try.prog 20 #[.pointer (some ⟨b, 0, none⟩), .int .i64 now] w (AllEnd L f now w) := by
  obtain ⟨D, hown, hv⟩ : ∃ D, w.ownsMap Try.prog 3 (plainElem Try.prog 3) mb n D ∧ View D f := by
    rcases h.map with ⟨h, _⟩ | ⟨mb', D, e, h1, h2⟩
    · cases h
    · cases e; exact ⟨D, h1, h2⟩
  have hsz := hown.size_le
  have c1 := h.c1
  refine (callsIn_wide (n := 6)).1 ?_
  have cK : ∀ mb W, CallsIn Fence.wide 5 Try.prog 25 #[.map mb] W fun e w' => e = .returned (.func (.func 30) #[] #[.pointer (some ⟨W.heap.size, 0, none⟩)]) ∧ w' = W.alloc (.cells #[.map mb] 39) := fun mb W => AnyZI.keys_in Try.keysI Fence.wide 5 trivial rfl mb W
  have hfK : Fence.wide.fn 25 := trivial
  have hfS : Fence.wide.fn 24 := trivial
  have hfD : Fence.wide.fn 23 := trivial
  refine callsIn_of_wp Try.func20 rfl trivial ?_ rfl
  simp only [Try.ntmps20, List.size_toArray, List.length_cons, List.length_nil, Nat.reduceAdd, Nat.reduceSub, Array.replicate_succ, Array.replicate_zero, List.push_toArray, List.append_toArray, List.nil_append, List.cons_append]
  have hblt := h.blk.lt
  have hne1 : ¬ b = w.heap.size := by omega
  have hne2 : ¬ b = w.heap.size + 1 := by omega
  gi_wp2_with fail
  refine (cK _ _).mono ?_
  rintro e w1 ⟨rfl, hw1⟩
  gi_wp2_with fail
  rw [← hw1]
  have hs1 : w1.heap.size = w.heap.size + 3 := by rw [hw1]; simp
  have T1 : Touch [] w w1 := by rw [hw1]; exact (((Touch.refl [] w).alloc _).alloc _).alloc _
  have hN1 : Blk w1 w.heap.size 3 #[.int .i64 now] := by rw [hw1]; exact ((Blk.new w _ _).alloc _).alloc _
  have hA1 : Blk w1 (w.heap.size + 1) 30 #[.func (.func 18) #[.pointer (some ⟨b, 0, none⟩)] #[]] := by
    rw [hw1]
    exact (Blk.new' _ _ _ (by simp)).alloc _
  have hM1 : w1.cell? ⟨w.heap.size + 1 + 1, 0, none⟩ = some (.map (some mb)) := by
    rw [hw1]; exact (Blk.new' _ _ _ (by simp)).cell 0
  have hB1 := h.touch T1 (by simp) (by simp)
  have hown1 : w1.ownsMap Try.prog 3 (plainElem Try.prog 3) mb n D := by
    obtain ⟨es, clock, hb, Ft, hs, hD⟩ := hown
    exact ⟨es, clock, T1.heap hb (by simp), Ft, hs, hD⟩
  have hseq : SeqGives Fence.wide 2 Try.prog 30 #[.pointer (some ⟨w.heap.size + 1 + 1, 0, none⟩)] encZ (fun ss => ss.Perm (intKeys D)) (Maps.size D) w1 :=
    AnyZI.keys_gives (ρ := Try.keysI_ren) { Try.keysI with } Fence.wide _ trivial rfl (by omega) (w.heap.size + 1 + 1) mb n D _ (by omega) hM1 hown1
  have cS := AnyZI.sorted_in Try.sortedI Fence.wide 5 trivial trivial trivial trivial rfl (by omega) (sortsI _) (enters_of Try.func29 (by kernel_rfl) rfl) 30 #[.pointer (some ⟨w.heap.size + 1 + 1, 0, none⟩)] trivial (enters_of Try.func30 (by kernel_rfl) rfl) _ _ (by unfold maxLen; omega) (by omega) _ hseq
  change CallsIn _ _ Try.prog 24 _ _ _ at cS
  have H1 := Lib.hid hw1
  clear hw1 hseq hM1
  refine cS.mono ?_
  clear cS cK
  rintro e w2 ⟨v, ss, rfl, hperm, hrow, hnil, hbel⟩
  have T2 : Touch [] w1 w2 := Touch.of_below hbel
  have hB2 := hB1.touch T2 (by simp) (by simp)
  have hN2 := T2.blk hN1 (by simp)
  have hA2 := T2.blk hA1 (by simp)
  have HP := Lib.hid hperm
  have HN := Lib.hid hnil
  have hs1' : w1.heap.size = w.heap.size + 3 := hs1
  have hK := keys_of hown hv
  clear hperm hnil hs1
  have wfs : ∀ x ∈ ss.mergeSort (fun x y => decide (x ≤ y)), (Lit.int .i64 x).wf = true := fun x hx => by
    have hx2 := (List.mem_mergeSort.1 hx)
    have := (hK.1 x).1 (HP.out.mem_iff.1 hx2)
    cases hfx : f x with
    | none => exact absurd hfx this
    | some v => have := hv.key x v hfx; exact wf64 (by omega) (by omega)
  have hss : ss.length ≤ n := by rw [HP.out.length_eq, hK.2.2]; exact hsz
  gi_wp2_with fail
  rcases hrow.2 with ⟨rfl, h0⟩ | ⟨g, cap, cur, rfl, hgb, hgh, hcap, hcm, hcs, htk⟩
  · refine (callsIn_wide.2 (del_nil _ _)).mono ?_
    rintro e w3 ⟨rfl, rfl⟩
    gi_wp2_with fail
    go_ret
    have hs0 : ss = [] := List.length_eq_zero_iff.1 h0
    refine ⟨none, 0, [], rfl, .inl rfl, List.Pairwise.nil, fun k => ?_, T1.trans T2 (by simp)⟩
    simp
    unfold aliveB
    cases hfk : f k with
    | none => rfl
    | some v =>
      have h1 := (hK.1 k).2 (by rw [hfk]; simp)
      rw [← HP.out.mem_iff, hs0] at h1
      cases h1
  · have hgw : w1.heap.size ≤ g := hgb
    have e1 : (ss.mergeSort (fun x y => decide (x ≤ y))).length = ss.length := by simp
    have htk' : cur.toList.take (ss.mergeSort (fun x y => decide (x ≤ y))).length = (ss.mergeSort (fun x y => decide (x ≤ y))).map (Value.int .i64) := by
      rw [e1]; simpa using htk
    have hd := del_alive w2 (w.heap.size + 1) w.heap.size b g cap (some mb) L n f hB2 now _ wfs cur hA2 hN2 hgh htk' (by rw [e1]; exact hcap) (by rw [e1]; omega)
      (by have := hs1'; omega) (by have := hs1'; omega) (by have := hs1'; omega) (fun m hm => by have := hB1.lt_map hm; omega)
    rw [e1] at hd
    refine (callsIn_wide.2 hd).mono ?_
    rintro e w3 ⟨rfl, hcells, T3⟩
    have T13 : Touch [] w w3 := (T1.trans T2 (by simp)).trans T3 (by simp; have := T1.size; omega)
    have HC := Lib.hid hcells
    clear hcells hd
    gi_wp2_with fail
    go_ret
    refine ⟨_, cap, _, rfl, .inr ⟨g, rfl, HC.out⟩, ?_, fun k => ?_, T13⟩
    · refine List.Pairwise.filter _ ?_
      exact sorted_lt ((List.mergeSort_perm ss _).nodup_iff.2 (HP.out.nodup_iff.2 hK.2.1)) (List.pairwise_mergeSort (by intro a b c; simp; omega) (by intro a b; simp; omega) ss)
    · rw [List.mem_filter, List.mem_mergeSort, HP.out.mem_iff, hK.1 k]
      constructor
      · exact fun h => h.2
      · intro h
        refine ⟨fun h0 => ?_, h⟩
        unfold aliveB at h
        rw [h0] at h
        cases h

set_option maxRecDepth 100000 in
set_option maxHeartbeats 2000000 in
theorem all_none (w : World) (b : Nat) (L : Int) (n : Nat) (f : Int → Option Int) (h : BeatAt w b none L n f) (now : Int) :
    Calls Try.prog 20 #[.pointer (some ⟨b, 0, none⟩), .int .i64 now] w (AllEnd L f now w) := by
  have hf : ∀ k, f k = none := by
    rcases h.map with ⟨_, h⟩ | ⟨_, _, e, _⟩
    · exact h
    · cases e
  have HF := Lib.hid hf
  clear hf
  have c1 := h.c1
  refine (callsIn_wide (n := 6)).1 ?_
  have cK : ∀ mb W, CallsIn Fence.wide 5 Try.prog 25 #[.map mb] W fun e w' => e = .returned (.func (.func 30) #[] #[.pointer (some ⟨W.heap.size, 0, none⟩)]) ∧ w' = W.alloc (.cells #[.map mb] 39) := fun mb W => AnyZI.keys_in Try.keysI Fence.wide 5 trivial rfl mb W
  have hfK : Fence.wide.fn 25 := trivial
  have hfS : Fence.wide.fn 24 := trivial
  have hfD : Fence.wide.fn 23 := trivial
  refine callsIn_of_wp Try.func20 rfl trivial ?_ rfl
  simp only [Try.ntmps20, List.size_toArray, List.length_cons, List.length_nil, Nat.reduceAdd, Nat.reduceSub, Array.replicate_succ, Array.replicate_zero, List.push_toArray, List.append_toArray, List.nil_append, List.cons_append]
  have hblt := h.blk.lt
  have hne1 : ¬ b = w.heap.size := by omega
  have hne2 : ¬ b = w.heap.size + 1 := by omega
  gi_wp2_with fail
  refine (cK _ _).mono ?_
  rintro e w1 ⟨rfl, hw1⟩
  gi_wp2_with fail
  rw [← hw1]
  have hs1 : w1.heap.size = w.heap.size + 3 := by rw [hw1]; simp
  have T1 : Touch [] w w1 := by rw [hw1]; exact (((Touch.refl [] w).alloc _).alloc _).alloc _
  have hM1 : w1.cell? ⟨w.heap.size + 1 + 1, 0, none⟩ = some (.map none) := by
    rw [hw1]; exact (Blk.new' _ _ _ (by simp)).cell 0
  have hseq : SeqGives Fence.wide 2 Try.prog 30 #[.pointer (some ⟨w.heap.size + 1 + 1, 0, none⟩)] encZ (fun ss : List Int => ss = []) 0 w1 :=
    AnyZI.keys_gives_nil (ρ := Try.keysI_ren) { Try.keysI with } Fence.wide _ trivial rfl (w.heap.size + 1 + 1) _ (by omega) hM1
  have cS := AnyZI.sorted_in Try.sortedI Fence.wide 5 trivial trivial trivial trivial rfl (by omega) (sortsI _) (enters_of Try.func29 (by kernel_rfl) rfl) 30 #[.pointer (some ⟨w.heap.size + 1 + 1, 0, none⟩)] trivial (enters_of Try.func30 (by kernel_rfl) rfl) _ 0 (Nat.zero_le _) (by omega) _ hseq
  change CallsIn _ _ Try.prog 24 _ _ _ at cS
  clear hw1 hseq hM1
  refine cS.mono ?_
  clear cS cK
  rintro e w2 ⟨v, ss, rfl, rfl, hrow, hnil, hbel⟩
  obtain rfl : v = .slice none 0 0 := hnil.2 rfl
  have T2 : Touch [] w1 w2 := Touch.of_below hbel
  clear hnil
  gi_wp2_with fail
  refine (callsIn_wide.2 (del_nil _ _)).mono ?_
  rintro e w3 ⟨rfl, rfl⟩
  gi_wp2_with fail
  go_ret
  refine ⟨none, 0, [], rfl, .inl rfl, List.Pairwise.nil, fun k => ?_, T1.trans T2 (by simp)⟩
  simp
  exact aliveB_none' L f k now (HF.out k)

theorem all_any (w : World) (b : Nat) (mo : Option Nat) (L : Int) (n : Nat) (f : Int → Option Int) (h : BeatAt w b mo L n f) (hn : n < 1000000) (now : Int) :
    Calls Try.prog 20 #[.pointer (some ⟨b, 0, none⟩), .int .i64 now] w (AllEnd L f now w) := by
  cases mo with
  | none => exact all_none w b L n f h now
  | some mb => exact all_some w b mb L n f h hn now

end Go.Proofs.Ytknkomnhfkbmiaa

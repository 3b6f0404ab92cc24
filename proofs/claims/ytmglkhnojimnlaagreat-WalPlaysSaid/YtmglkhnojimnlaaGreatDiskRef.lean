/- Package fingerpostref09: what its disk looks like in memory; find, Used, may, step. -/
import Derived.Test.YtmglkhnojimnlaaGreatDiskRefM
import Derived.Laws.AppendOwn
import Derived.Laws.AppendOwnNone
import Derived.Laws.Cover1
import Derived.OwnWalk
import Derived.BigQuiet
namespace Go.Proofs.YtmglkhnojimnlaaGreat
open Go.RowKit Go.Maps Go.WideMaps
open DM (N F FL Sorted)

def cellsF (p : N × F) : List Value := [.string (str p.1), .string p.2.1, .int .i64 (p.2.2 : Int)]
def cellsL : FL → List Value
  | [] => []
  | p :: l => cellsF p ++ cellsL l
theorem cellsL_length : ∀ (l : FL), (cellsL l).length = l.length * 3
  | [] => rfl
  | p :: l => by simp only [cellsL, List.length_append, cellsL_length l, List.length_cons, cellsF, List.length_nil]; omega
theorem cellsL_append : ∀ (l m : FL), cellsL (l ++ m) = cellsL l ++ cellsL m
  | [], _ => rfl
  | p :: l, m => by simp only [List.cons_append, cellsL, cellsL_append l m, List.append_assoc]
theorem cellsL_at : ∀ (l : FL) (i : Nat) (h : i < l.length) (j : Nat), j < 3 → (cellsL l)[i * 3 + j]? = (cellsF l[i])[j]?
  | p :: l, 0, _, j, hj => by
    simp only [cellsL, Nat.zero_mul, Nat.zero_add, List.getElem_cons_zero]
    rw [List.getElem?_append_left (by simpa [cellsF] using hj)]
  | p :: l, i + 1, h, j, hj => by
    simp only [cellsL, List.getElem_cons_succ]
    rw [show (i + 1) * 3 + j = 3 + (i * 3 + j) by omega, List.getElem?_append_right (by simp [cellsF])]
    rw [show 3 + (i * 3 + j) - (cellsF p).length = i * 3 + j by simp [cellsF]]
    exact cellsL_at l i (by simpa using h) j hj
theorem cellsL_take : ∀ (l : FL) (i : Nat), cellsL (l.take i) = (cellsL l).take (i * 3)
  | [], i => by simp [cellsL]
  | p :: l, 0 => by simp [cellsL]
  | p :: l, i + 1 => by
    simp only [List.take_succ_cons, cellsL, cellsL_take l i]
    rw [show (i + 1) * 3 = (cellsF p).length + i * 3 by simp [cellsF]; omega, List.take_length_add_append]
theorem cellsL_drop : ∀ (l : FL) (i : Nat), cellsL (l.drop i) = (cellsL l).drop (i * 3)
  | [], i => by simp [cellsL]
  | p :: l, 0 => by simp
  | p :: l, i + 1 => by
    simp only [List.drop_succ_cons, cellsL, cellsL_drop l i]
    rw [show (i + 1) * 3 = (cellsF p).length + i * 3 by simp [cellsF]; omega, List.drop_length_add_append]

def LeftRel (n : Nat) (armed : Bool) (left dl : Int) : Prop :=
  (armed = false ∧ dl = 0 ∧ -9223372036854775808 ≤ left ∧ left ≤ 9223372036854775807) ∨
  (armed = true ∧ 0 ≤ left ∧ left ≤ 9223372036854775807 ∧ 1 ≤ dl ∧ dl ≤ 4611686018427387905 ∧ (dl = left + 1 ∨ (4611686018427387904 - (n : Int) ≤ left ∧ 4611686018427387904 - (n : Int) ≤ dl)))
theorem LeftRel.mono {n m : Nat} {armed : Bool} {left dl : Int} (h : LeftRel n armed left dl) (hm : n ≤ m) : LeftRel m armed left dl := by
  rcases h with h | ⟨h1, h2, h3, h4, h5, h6⟩
  · exact .inl h
  · refine .inr ⟨h1, h2, h3, h4, h5, ?_⟩
    rcases h6 with h6 | ⟨h6, h7⟩
    · exact .inl h6
    · exact .inr ⟨by omega, by omega⟩
structure RefAt (w : World) (B b : Nat) (v : Value) (n : Nat) (d : DM.D) : Prop where
  blk : ∃ (armed : Bool) (left : Int), Blk w b 41 #[.int .i64 d.room, v, .bool d.off, .bool armed, .int .i64 left, .int .i64 d.done] ∧ LeftRel n armed left d.left
  room : 0 ≤ d.room ∧ d.room ≤ 9223372036854775807
  done : 0 ≤ d.done ∧ d.done ≤ n
  files : w.ownsRow B 68 3 v d.fl.length (cellsL d.fl)
  fit : Fit d.fl n
theorem ownsRow_touch {w w' : World} {S : List Nat} {B size n : Nat} {e : TypeId} {v : Value} {xs : List Value} (h : w.ownsRow B e size v n xs) (ht : Touch S w w') (hS : ∀ g, v.ownBlock = some g → g ∉ S) : w'.ownsRow B e size v n xs := by
  obtain ⟨hl, h⟩ := h
  refine ⟨hl, ?_⟩
  rcases h with h | ⟨g, cap, cur, rfl, h1, h2, h3⟩
  · exact .inl h
  · exact .inr ⟨g, cap, cur, rfl, h1, ht.heap h2 (hS g rfl), h3⟩
section
variable {w w' : World} {B b n : Nat} {v : Value} {d : DM.D} {S : List Nat}
theorem RefAt.touch (h : RefAt w B b v n d) (ht : Touch S w w') (hb : b ∉ S) (hS : ∀ g, v.ownBlock = some g → g ∉ S) : RefAt w' B b v n d := by
  obtain ⟨armed, left, h1, h2⟩ := h.blk
  exact ⟨⟨armed, left, ht.blk h1 hb, h2⟩, h.room, h.done, ownsRow_touch h.files ht hS, h.fit⟩
theorem RefAt.more (h : RefAt w B b v n d) {m : Nat} (hm : n ≤ m) : RefAt w B b v m d := by
  obtain ⟨armed, left, h1, h2⟩ := h.blk
  exact ⟨⟨armed, left, h1, h2.mono hm⟩, h.room, ⟨h.done.1, Int.le_trans h.done.2 (by omega)⟩, h.files, ⟨h.fit.sorted, Nat.le_trans h.fit.len hm, h.fit.small, h.fit.each⟩⟩
theorem RefAt.lt (h : RefAt w B b v n d) : b < w.heap.size := by
  obtain ⟨armed, left, h1, h2⟩ := h.blk
  exact h1.lt
theorem RefAt.c0 (h : RefAt w B b v n d) : w.cell? ⟨b, 0, none⟩ = some (.int .i64 d.room) := by
  obtain ⟨armed, left, h1, h2⟩ := h.blk
  exact h1.cell 0
theorem RefAt.c1 (h : RefAt w B b v n d) : w.cell? ⟨b, 1, none⟩ = some v := by
  obtain ⟨armed, left, h1, h2⟩ := h.blk
  exact h1.cell 1
theorem RefAt.c2 (h : RefAt w B b v n d) : w.cell? ⟨b, 2, none⟩ = some (.bool d.off) := by
  obtain ⟨armed, left, h1, h2⟩ := h.blk
  exact h1.cell 2
theorem RefAt.c5 (h : RefAt w B b v n d) : w.cell? ⟨b, 5, none⟩ = some (.int .i64 d.done) := by
  obtain ⟨armed, left, h1, h2⟩ := h.blk
  exact h1.cell 5
/-- the files' slice, opened -/
theorem RefAt.open (h : RefAt w B b v n d) : ∃ (a : Option Addr) (cap : Nat), v = .slice a d.fl.length cap ∧ d.fl.length ≤ cap ∧ cap ≤ maxLen ∧ (a = none → d.fl.length = 0 ∧ cap = 0) ∧
    ∀ g o sp, a = some ⟨g, o, sp⟩ → o = 0 ∧ sp = none ∧ v.ownBlock = some g ∧ B ≤ g ∧ (∃ cur, Blk w g 68 cur ∧ cur.size = cap * 3) ∧ ∀ (i : Nat) (hi : i < d.fl.length), w.cell? ⟨g, i * 3, none⟩ = some (.string (str d.fl[i].1)) ∧ w.cell? ⟨g, i * 3 + 1, none⟩ = some (.string d.fl[i].2.1) ∧ w.cell? ⟨g, i * 3 + 2, none⟩ = some (.int .i64 (d.fl[i].2.2 : Int)) := by
  obtain ⟨hl, hv⟩ := h.files
  rcases hv with ⟨rfl, h0⟩ | ⟨g, cap, cur, rfl, hB, hb, hc, hm, hs, ht⟩
  · exact ⟨none, 0, by rw [h0], by omega, Nat.zero_le _, fun _ => ⟨h0, rfl⟩, fun g o sp e => by cases e⟩
  · refine ⟨_, cap, rfl, hc, hm, (fun e => by cases e), fun g' o sp e => ?_⟩
    cases e
    refine ⟨rfl, rfl, rfl, hB, ⟨cur, hb, hs⟩, fun i hi => ?_⟩
    have key : ∀ j, j < 3 → w.cell? ⟨g, i * 3 + j, none⟩ = (cellsF d.fl[i])[j]? := fun j hj => by
      have h1 : w.cell? ⟨g, i * 3 + j, none⟩ = cur[i * 3 + j]? := Blk.cell hb _
      rw [h1, ← cellsL_at d.fl i hi j hj, ← ht, List.getElem?_take]
      rw [if_pos (by omega)]
      simp
    exact ⟨key 0 (by omega), key 1 (by omega), key 2 (by omega)⟩
end
theorem less_str (x : N) (k : ByteArray) : Op.bytesLess (str x).toList k.toList = decide (x < nm k) := by
  rw [bytesLess_eq, ByteArray.toList_eq, ByteArray.toList_eq]
  exact decide_eq_decide.2 (by simp [str, nm])
theorem eq_str (x : N) (k : ByteArray) : ((str x).toList == k.toList) = decide (x = nm k) := by
  rw [ByteArray.toList_eq, ByteArray.toList_eq]
  simp only [str, nm]
  rw [Bool.eq_iff_iff, beq_iff_eq]
  exact decide_eq_true_iff.symm

set_option maxRecDepth 10000 in
set_option maxHeartbeats 800000 in
theorem rfind_any (w : World) (B b n : Nat) (v : Value) (d : DM.D) (h : RefAt w B b v n d) (hn : n < 1099511627776) (k : ByteArray) :
    Calls Tryz.prog 88 #[.pointer (some ⟨b, 0, none⟩), .string k] w fun e w' => e = .returned (.tuple #[.int .i64 (DM.idx d.fl (nm k)), .bool (DM.look d.fl (nm k)).isSome]) ∧ ∃ j, w' = w.drewN j := by
  obtain ⟨a, cap, hv, hc, hm, h0, hop⟩ := h.open
  have c1 := h.c1
  rw [hv] at c1
  have hlen := h.fit.len
  have HLEN := Lib.hid hlen
  have HOP := Lib.hid hop
  have H0 := Lib.hid h0
  have HS := Lib.hid h.fit.sorted
  have hlb : (d.fl.length : Int) ≤ 1099511627776 := by omega
  unfold maxLen at hm
  have HCC := Lib.hid (And.intro hc hm)
  clear hlen hop h0 hc hm hv
  go_enter Tryz.func88, Tryz.ntmps88
  go_wp2_with fail
  go_loop [6] (fun u => ∃ i : Nat, i ≤ d.fl.length ∧ u = .int .i64 i ∧ ∀ (j : Nat) (h : j < d.fl.length), j < i → d.fl[j].1 < nm k) (fun u => d.fl.length - (intOf u).toNat)
  case atStart => exact ⟨0, Nat.zero_le _, rfl, fun j h hj => absurd hj (Nat.not_lt_zero _)⟩
  case round =>
    obtain ⟨i, hi, rfl, hlt⟩ := hrel
    have HLT := Lib.hid hlt
    clear hlt
    by_cases hil : i < d.fl.length
    · obtain ⟨g, o, sp, rfl⟩ : ∃ g o sp, a = some ⟨g, o, sp⟩ := by
        cases a with
        | none => have := (H0.out rfl).1; omega
        | some ad => exact ⟨ad.block, ad.off, ad.spot, rfl⟩
      obtain ⟨rfl, rfl, _, _, _, hcl⟩ := HOP.out g o sp rfl
      obtain ⟨x0, _, _⟩ := hcl i hil
      have hls := less_str d.fl[i].1 k
      have heq := eq_str d.fl[i].1 k
      have HEQ := Lib.hid heq
      clear hcl
      by_cases hl : d.fl[i].1 < nm k
      · have hls' : Op.bytesLess (str d.fl[i].1).toList k.toList = true := by rw [hls]; simpa using hl
        have HL := Lib.hid hl
        obtain ⟨ks, hks⟩ : ∃ ks, ks = str d.fl[i].1 := ⟨_, rfl⟩
        rw [← hks] at x0 hls'
        have HKS := Lib.hid hks
        clear hls heq hl hks
        go_wp2_with fail
        go_round
        case rel =>
          refine ⟨i + 1, by omega, by go_num, fun j hj hji => ?_⟩
          by_cases e : j = i
          · subst e; exact HL.out
          · exact HLT.out j hj (by omega)
        case measure => simp [intOf]; omega
      · have hls' : Op.bytesLess (str d.fl[i].1).toList k.toList = false := by rw [hls]; simpa using hl
        have hix := DM.idx_eq d.fl (nm k) i hi (fun j hj hji => HLT.out j hj hji) (fun _ => hl)
        have his := DM.is_at HS.out (nm k) i hil (fun j hj hji => HLT.out j hj hji) hl
        rw [← heq] at his
        obtain ⟨ks, hks⟩ : ∃ ks, ks = str d.fl[i].1 := ⟨_, rfl⟩
        rw [← hks] at x0 hls' his
        have HIX := Lib.hid hix
        have HIS := Lib.hid his
        clear hls heq hl hks hix his HEQ
        go_wp2_with fail
        go_quiet (fail)
        go_wp2_with fail
        go_ret2
        exact ⟨by rw [HIX.out, HIS.out]; rfl, _, rfl⟩
    · obtain rfl : i = d.fl.length := by omega
      have hix := DM.idx_eq d.fl (nm k) d.fl.length hi (fun j hj hji => HLT.out j hj hji) (fun h => absurd h hil)
      have his := DM.is_end (l := d.fl) (nm k) (fun j hj => HLT.out j hj hj)
      have HIX := Lib.hid hix
      have HIS := Lib.hid his
      clear hix his
      go_wp2_with fail
      go_ret2
      exact ⟨by rw [HIX.out, HIS.out]; rfl, 0, rfl⟩

set_option maxRecDepth 10000 in
set_option maxHeartbeats 800000 in
theorem rused_any (w : World) (B b n : Nat) (v : Value) (d : DM.D) (h : RefAt w B b v n d) (hn : n < 1099511627776) :
    Calls Tryz.prog 11 #[.pointer (some ⟨b, 0, none⟩)] w fun e w' => e = .returned (.int .i64 (DM.used d.fl)) ∧ ∃ j, w' = w.drewN j := by
  obtain ⟨a, cap, hv, hc, hm, h0, hop⟩ := h.open
  have c1 := h.c1
  rw [hv] at c1
  have hlen := h.fit.len
  have HLEN := Lib.hid hlen
  have HOP := Lib.hid hop
  have H0 := Lib.hid h0
  have HSM := Lib.hid h.fit.small
  have hlb : (d.fl.length : Int) ≤ 1099511627776 := by omega
  unfold maxLen at hm
  have HCC := Lib.hid (And.intro hc hm)
  clear hlen hop h0 hc hm hv
  go_enter Tryz.func11, Tryz.ntmps11
  go_wp2_with fail
  go_loop [3, 4] (fun s u => ∃ i : Nat, i ≤ d.fl.length ∧ s = .int .i64 (usedTo d.fl i : Int) ∧ u = .int .i64 i) (fun _ u => d.fl.length - (intOf u).toNat)
  case atStart => exact ⟨0, Nat.zero_le _, by simp [usedTo, DM.used], rfl⟩
  case round =>
    obtain ⟨i, hi, rfl, rfl⟩ := hrel
    by_cases hil : i < d.fl.length
    · obtain ⟨g, o, sp, rfl⟩ : ∃ g o sp, a = some ⟨g, o, sp⟩ := by
        cases a with
        | none => have := (H0.out rfl).1; omega
        | some ad => exact ⟨ad.block, ad.off, ad.spot, rfl⟩
      obtain ⟨rfl, rfl, _, _, _, hcl⟩ := HOP.out g o sp rfl
      obtain ⟨_, x1, _⟩ := hcl i hil
      have hsu := usedTo_succ d.fl i hil
      have hle := usedTo_le d.fl (i + 1)
      have hu2 : (usedTo d.fl i : Int) + (d.fl[i].2.1.size : Int) ≤ 1099511627776 := by have := HSM.out; omega
      have hu3 : (0 : Int) ≤ (usedTo d.fl i : Int) := by omega
      have HU := Lib.hid hsu
      obtain ⟨fd, hfd⟩ : ∃ fd, fd = d.fl[i].2.1 := ⟨_, rfl⟩
      rw [← hfd] at x1 hu2 HU
      clear hcl hsu hle hfd
      go_wp2_with fail
      go_round
      case rel => exact ⟨i + 1, by omega, by rw [HU.out]; go_num, by go_num⟩
      case measure => simp [intOf]; omega
    · obtain rfl : i = d.fl.length := by omega
      go_wp2_with fail
      go_ret
      exact ⟨by simp [usedTo], 0, rfl⟩

set_option maxRecDepth 10000 in
theorem rmay_any (w : World) (B b n : Nat) (v : Value) (d : DM.D) (h : RefAt w B b v n d) (hn : n < 1099511627776) (k : ByteArray) (hk : k.size ≤ maxLen) (t : Bool) :
    Calls Tryz.prog 85 #[.pointer (some ⟨b, 0, none⟩), .string k, .bool t] w fun e w' => e = .returned (.int .i64 (DM.may1 d t (nm k))) ∧ ∃ j, w' = w.drewN j := by
  unfold maxLen at hk
  have c2 := h.c2
  have bl := bad_iff k
  have hf := rfind_any w B b n v d h hn k
  have HF := Lib.hid hf
  clear hf
  cases ho : d.off with
  | true =>
    rw [may1_off d t _ ho]
    rw [ho] at c2
    clear bl ho
    go_enter Tryz.func85, Tryz.ntmps85
    go_wp2
    go_ret
    exact ⟨rfl, 0, rfl⟩
  | false =>
    rw [ho] at c2
    by_cases h0 : k.size = 0
    · rw [may1_bad d t _ ho (by rw [bl]; simp [h0])]
      clear bl ho
      go_enter Tryz.func85, Tryz.ntmps85
      go_wp2
      go_ret
      exact ⟨rfl, 0, rfl⟩
    by_cases h4 : 40 < k.size
    · rw [may1_bad d t _ ho (by rw [bl]; simp [h4])]
      clear bl ho
      go_enter Tryz.func85, Tryz.ntmps85
      go_wp2
      go_ret
      exact ⟨rfl, 0, rfl⟩
    rw [may1_ok d t _ ho (by rw [bl]; simp [h0]; omega)]
    obtain ⟨is, his⟩ : ∃ is, is = (DM.look d.fl (nm k)).isSome := ⟨_, rfl⟩
    have hno : (DM.look d.fl (nm k)).isNone = !is := by rw [his]; cases DM.look d.fl (nm k) <;> rfl
    rw [hno]
    rw [← his] at HF
    clear bl ho his hno
    go_enter Tryz.func85, Tryz.ntmps85
    go_wp2_with fail
    refine HF.out.mono ?_
    rintro e w' ⟨rfl, j, rfl⟩
    cases t <;> cases is
    all_goals
      go_wp2_with fail
      go_ret
      exact ⟨rfl, j, rfl⟩

/-- some cells of the disk itself are written -/
theorem RefAt.own {w w' : World} {B b n m : Nat} {v : Value} {d d' : DM.D} (h : RefAt w B b v n d) (ht : Touch [b] w w') (hb : ∃ (armed : Bool) (left : Int), Blk w' b 41 #[.int .i64 d'.room, v, .bool d'.off, .bool armed, .int .i64 left, .int .i64 d'.done] ∧ LeftRel m armed left d'.left)
    (hr : 0 ≤ d'.room ∧ d'.room ≤ 9223372036854775807) (hd : 0 ≤ d'.done ∧ d'.done ≤ m) (hf : d'.fl = d.fl) (hm : n ≤ m) : RefAt w' B b v m d' := by
  refine ⟨hb, hr, hd, ?_, ?_⟩
  · rw [hf]
    refine ownsRow_touch h.files ht (fun g hg => ?_)
    obtain ⟨a, cap, hv, _, _, h0, hop⟩ := h.open
    obtain ⟨armed, left, h1, _⟩ := h.blk
    cases a with
    | none => rw [hv] at hg; cases hg
    | some ad =>
      obtain ⟨g', o, sp⟩ := ad
      obtain ⟨_, _, hgg, _, ⟨cur, hcur, _⟩, _⟩ := hop g' o sp rfl
      rw [hgg] at hg
      cases hg
      simp only [List.mem_singleton]
      exact hcur.ne_type h1 (by decide)
  · rw [hf]; exact ⟨h.fit.sorted, Nat.le_trans h.fit.len hm, h.fit.small, h.fit.each⟩

set_option maxRecDepth 10000 in
theorem rstep_any (w : World) (B b n : Nat) (v : Value) (d : DM.D) (h : RefAt w B b v n d) (hn : n < 1099511627776) :
    Calls Tryz.prog 86 #[.pointer (some ⟨b, 0, none⟩)] w fun e w' => e = .returned (.int .i64 (DM.step d).1) ∧ RefAt w' B b v (n + 1) (DM.step d).2 ∧ Touch [b] w w' := by
  obtain ⟨armed, left, hb, hl⟩ := h.blk
  have c2 := h.c2
  have c3 : w.cell? ⟨b, 3, none⟩ = some (.bool armed) := hb.cell 3
  have c4 : w.cell? ⟨b, 4, none⟩ = some (.int .i64 left) := hb.cell 4
  have c5 : w.cell? ⟨b, 5, none⟩ = some (.int .i64 d.done) := hb.cell 5
  have f2 := hb.frozen 2
  have f4 := hb.frozen 4
  have f5 := hb.frozen 5
  obtain ⟨d0, d1⟩ := h.done
  have d2 : d.done + 1 ≤ 9223372036854775807 := by omega
  rcases hl with ⟨rfl, hdl, hl0, hl1⟩ | ⟨rfl, hl0, hl1, hd1, hd2, hd3⟩
  · have hs : DM.step d = (0, { d with left := 0, done := d.done + 1 }) := by
      unfold DM.step
      rw [if_neg (by omega), hdl]
      rfl
    rw [hs]
    clear hs
    go_enter Tryz.func86, Tryz.ntmps86
    go_wp2
    go_ret
    have ht : Touch [b] w (w.setCell ⟨b, 5, none⟩ (.int .i64 (d.done + 1))) := (Touch.refl _ _).setCell _ _ (.inl (by simp))
    exact ⟨rfl, h.own ht ⟨false, left, hb.set_ 5 _, .inl ⟨rfl, rfl, hl0, hl1⟩⟩ h.room ⟨by simp only; omega, by simp only; omega⟩ rfl (by omega), ht⟩
  have HD3 := Lib.hid hd3
  by_cases h0 : left = 0
  · subst h0
    have hdl : d.left = 1 := by omega
    clear hd3
    have hs : DM.step d = (14, { d with off := true }) := by unfold DM.step; rw [if_pos hdl]
    rw [hs]
    clear hs
    go_enter Tryz.func86, Tryz.ntmps86
    go_wp2
    go_ret
    have ht : Touch [b] w (w.setCell ⟨b, 2, none⟩ (.bool true)) := (Touch.refl _ _).setCell _ _ (.inl (by simp))
    exact ⟨rfl, h.own ht ⟨true, 0, hb.set_ 2 _, .inr ⟨rfl, by omega, by omega, by simp only; omega, by simp only; omega, .inl (by simp only; omega)⟩⟩ h.room ⟨d0, by simp only; omega⟩ rfl (by omega), ht⟩
  · have hdl : d.left ≠ 1 := by omega
    have hs : DM.step d = (0, { d with left := d.left - 1, done := d.done + 1 }) := by
      unfold DM.step
      rw [if_neg hdl]
      have : max (d.left - 1) 0 = d.left - 1 := by omega
      rw [this]
    rw [hs]
    have hl2 : (left == 0) = false := by simpa using h0
    have hl3 : 1 ≤ left := by omega
    clear hs hd3
    go_enter Tryz.func86, Tryz.ntmps86
    go_wp2
    go_ret
    have ht : Touch [b] w ((w.setCell ⟨b, 4, none⟩ (.int .i64 (left - 1))).setCell ⟨b, 5, none⟩ (.int .i64 (d.done + 1))) := ((Touch.refl _ _).setCell _ _ (.inl (by simp))).setCell _ _ (.inl (by simp))
    exact ⟨rfl, h.own ht ⟨true, left - 1, (hb.set_ 4 _).set_ 5 _, .inr ⟨rfl, by omega, by omega, by simp only; omega, by simp only; omega, by
      rcases HD3.out with hd3 | ⟨hd3, hd4⟩
      · exact .inl (by simp only; omega)
      · exact .inr ⟨by omega, by simp only; omega⟩⟩⟩ h.room ⟨by simp only; omega, by simp only; omega⟩ rfl (by omega), ht⟩
end Go.Proofs.YtmglkhnojimnlaaGreat

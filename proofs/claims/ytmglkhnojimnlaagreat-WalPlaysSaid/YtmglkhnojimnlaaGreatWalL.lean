/- The log over a disk, as plain data: opening, appending, syncing, rewriting; what a crash leaves. No program here. -/
import Derived.Test.YtmglkhnojimnlaaGreatWalT2
import Derived.Test.YtmglkhnojimnlaaGreatWal1
import Derived.Test.YtmglkhnojimnlaaGreatDiskGood
namespace Go.Proofs.YtmglkhnojimnlaaGreat.LM
open DM (N F FL Sorted D)
open WM (Bs all recs Fits within rec_ rec_length be4 be4_length num4 head?)

def walN : N := [119, 97, 108]
def newN : N := [119, 97, 108, 46, 110, 101, 119]
theorem names_ne : walN ≠ newN := by decide
theorem bad_wal : DM.bad walN = false := by decide
theorem bad_new : DM.bad newN = false := by decide
def seq (r : Int × D) (f : D → Int × D) : Int × D := if r.1 = 0 then f r.2 else r
def clear (d : D) : Int × D := if (DM.look d.fl newN).isSome = true ∧ d.off = false then DM.remove d newN else (0, d)
def cutAt (d : D) (n k : Nat) : Int × D := if n = k then (0, d) else DM.cut d walN n
def fixup (d : D) : (Int × D) × List Bs :=
  if (DM.read d walN).2 = 0 then
    (let r := seq (cutAt d (recs (bs (DM.read d walN).1)).2 (DM.read d walN).1.size) (fun d => DM.sync d walN)
     if r.1 = 0 then (r, (recs (bs (DM.read d walN).1)).1) else (r, []))
  else (((DM.read d walN).2, d), [])
def opened (d : D) : (Int × D) × List Bs :=
  if d.off = true then ((14, d), [])
  else if (clear d).1 = 0 then (if (DM.look (clear d).2.fl walN).isSome = true then fixup (clear d).2 else ((0, (clear d).2), []))
  else (clear d, [])

structure L where
  d : D
  l : List Bs
  firm : Nat
  broken : Bool
def start (d : D) (l : List Bs) : L := ⟨d, l, l.length, false⟩
def said (x : L) (r : Int × D) : Int × L := (r.1, { x with d := r.2, broken := x.broken || (r.1 != 0 && r.1 != 15) })
def append (x : L) (m : List Bs) : Int × L :=
  if x.broken = true then (13, x) else if m = [] then (0, x)
  else (let r := said x (DM.append x.d walN (ofBs (all m))); if r.1 = 0 then (0, { r.2 with l := x.l ++ m }) else r)
def sync (x : L) : Int × L :=
  if x.broken = true then (13, x) else if x.firm = x.l.length then (0, x)
  else (let r := said x (DM.sync x.d walN); if r.1 = 0 then (0, { r.2 with firm := x.l.length }) else r)
def rewriteD (d : D) (m : List Bs) : Int × D :=
  seq (seq (seq (clear d) (fun d => DM.append d newN (ofBs (all m)))) (fun d => DM.sync d newN)) (fun d => DM.rename d newN walN)
def rewrite (x : L) (m : List Bs) : Int × L :=
  if x.broken = true then (13, x)
  else (let r := said x (rewriteD x.d m); if r.1 = 0 then (0, { r.2 with l := m, firm := m.length }) else r)

/- what a step of the disk comes to -/
theorem thn_fl (d : D) (e : Int) (f : FL → FL) : (DM.thn d e f).1 = 0 ∧ (DM.thn d e f).2.fl = f d.fl ∧ (DM.thn d e f).2.off = d.off ∨ (DM.thn d e f).1 ≠ 0 ∧ (DM.thn d e f).2.fl = d.fl := by
  unfold DM.thn DM.step
  by_cases he : e = 0
  · rw [if_pos he]
    by_cases hl : d.left = 1
    · rw [if_pos hl]; right; simp
    · rw [if_neg hl]; left; simp
  · rw [if_neg he]; right; exact ⟨he, rfl⟩
theorem thn_left (d : D) (f : FL → FL) (hl : d.left = 0) : (DM.thn d 0 f).1 = 0 ∧ (DM.thn d 0 f).2.left = 0 := by
  have hm : max ((0 : Int) - 1) 0 = 0 := by decide
  have hs : DM.step d = (0, { d with left := 0, done := d.done + 1 }) := by
    unfold DM.step
    rw [if_neg (by omega), hl, hm]
  unfold DM.thn
  rw [if_pos rfl, hs]
  simp
theorem may_in (d : D) (n : N) (ho : d.off = false) (hn : DM.bad n = false) (hl : (DM.look d.fl n).isSome = true) : DM.may1 d true n = 0 := by
  unfold DM.may1
  rw [if_neg (by simp [ho]), if_neg (by simp [hn])]
  cases h : DM.look d.fl n with
  | none => rw [h] at hl; cases hl
  | some f => simp

theorem bs_flip (b : ByteArray) (h : 0 < b.size) : bs (DM.flip b) = (bs b).set (b.size - 1) (255 - (bs b).getD (b.size - 1) 0) := by
  have hs : b.data.size = b.size := rfl
  have hd : (DM.flip b).data = b.data.setIfInBounds (b.size - 1) (255 - b.get! (b.size - 1)) := rfl
  have hg : b.get! (b.size - 1) = (bs b).getD (b.size - 1) 0 := by
    show b.data[b.size - 1]! = _
    unfold bs
    rw [getElem!_pos b.data (b.size - 1) (by omega), List.getD_eq_getElem?_getD, Array.getElem?_toList, Array.getElem?_eq_getElem (by omega)]
    rfl
  unfold bs at hg ⊢
  rw [hd, Array.toList_setIfInBounds, ← hg]
theorem inv_ne (x : UInt8) : 255 - x ≠ x := by
  intro h
  have := congrArg UInt8.toNat h
  rw [UInt8.toNat_sub] at this
  have hx := x.toNat_lt
  have h2 : (255 : UInt8).toNat = 255 := rfl
  omega
theorem bs_take (b : ByteArray) (n : Nat) : bs (b.extract 0 n) = (bs b).take n := by
  unfold bs
  rw [ByteArray.data_extract]
  simp
theorem look_crash : ∀ (fl : FL) (ps : List Int) (k : N), ∃ qs, DM.look (DM.crashL fl ps) k = (DM.look fl k).map (fun f => (DM.tear f qs).1)
  | [], ps, k => ⟨[], rfl⟩
  | p :: fl, ps, k => by
    unfold DM.crashL DM.look
    by_cases h : p.1 = k
    · exact ⟨ps, by rw [if_pos h, if_pos h]; rfl⟩
    · obtain ⟨qs, hq⟩ := look_crash fl (DM.tear p.2 ps).2 k
      exact ⟨qs, by rw [if_neg h, if_neg h, hq]⟩

/-- the records of a log whose bytes stand on the disk -/
structure Inv (fl : FL) (l : List Bs) (firm : Nat) : Prop where
  fits : Fits l
  le : firm ≤ l.length
  at_ : match DM.look fl walN with
    | none => l = []
    | some f => bs f.1 = all l ∧ (all (l.take firm)).length ≤ f.2 ∧ f.2 ≤ f.1.size
/-- what stands there behind a crash: all of it lasts -/
structure Torn (fl : FL) (l : List Bs) : Prop where
  fits : Fits l
  at_ : match DM.look fl walN with
    | none => l = []
    | some f => (recs (bs f.1)).1 = l ∧ f.2 = f.1.size

theorem Inv.of_look {fl fl' : FL} {l : List Bs} {firm : Nat} (h : Inv fl l firm) (he : DM.look fl' walN = DM.look fl walN) : Inv fl' l firm := ⟨h.fits, h.le, by rw [he]; exact h.at_⟩
theorem Torn.of_look {fl fl' : FL} {l : List Bs} (h : Torn fl l) (he : DM.look fl' walN = DM.look fl walN) : Torn fl' l := ⟨h.fits, by rw [he]; exact h.at_⟩
theorem Fits.take {l : List Bs} (h : Fits l) (n : Nat) : Fits (l.take n) := fun s hs => h s (List.mem_of_mem_take hs)
theorem Inv.empty : Inv [] [] 0 := ⟨by intro s hs; simp at hs, Nat.le_refl _, rfl⟩
theorem recs_all' {l : List Bs} (h : Fits l) : recs (all l) = (l, (all l).length) := by
  have h1 := WM.recs_all l [] h
  have h2 : recs ([] : Bs) = ([], 0) := WM.recs_short (by simp)
  rw [List.append_nil, h2] at h1
  simpa using h1
theorem Inv.torn {fl : FL} {l : List Bs} (h : Inv fl l l.length) : Torn fl l := by
  refine ⟨h.fits, ?_⟩
  have := h.at_
  cases hl : DM.look fl walN with
  | none => rw [hl] at this; exact this
  | some f =>
    rw [hl] at this
    obtain ⟨h1, h2, h3⟩ := this
    refine ⟨by rw [h1, recs_all' h.fits], ?_⟩
    rw [List.take_length, ← h1, bs_length] at h2
    omega

/-- what a crash leaves of a log: a beginning, with all that lasts -/
theorem Inv.crash {fl : FL} {l : List Bs} {firm : Nat} (h : Inv fl l firm) (ps : List Int) : ∃ j, firm ≤ j ∧ j ≤ l.length ∧ Torn (DM.crashL fl ps) (l.take j) := by
  obtain ⟨qs, hq⟩ := look_crash fl ps walN
  have hat := h.at_
  cases hl : DM.look fl walN with
  | none =>
    rw [hl] at hat hq
    have hle := h.le
    subst hat
    exact ⟨0, by simpa using hle, Nat.le_refl _, fun s hs => by simp at hs, by rw [hq]; rfl⟩
  | some f =>
    rw [hl] at hat hq
    obtain ⟨h1, h2, h3⟩ := hat
    have ht := DM.tear_ok f qs h3
    have hm := DM.more_le f (DM.pick qs).1
    obtain ⟨mo, hmo⟩ : ∃ mo, mo = DM.more f (DM.pick qs).1 := ⟨_, rfl⟩
    have hlen : f.1.size = (all l).length := by rw [← h1, bs_length]
    have hx : bs (f.1.extract 0 (f.2 + mo)) = (all l).take (f.2 + mo) := by rw [bs_take, h1]
    have hxs : (f.1.extract 0 (f.2 + mo)).size = f.2 + mo := by rw [ByteArray.size_extract]; omega
    have hcut := WM.recs_cut l (f.2 + mo) h.fits
    have plain : ∃ j, firm ≤ j ∧ j ≤ l.length ∧ (recs (bs (f.1.extract 0 (f.2 + mo)))).1 = l.take j :=
      ⟨within l (f.2 + mo), WM.le_within l _ firm h.le (by omega), WM.within_le _ _, by rw [hx, hcut]⟩
    have key : ∃ j, firm ≤ j ∧ j ≤ l.length ∧ (recs (bs (DM.tear f qs).1.1)).1 = l.take j := by
      rw [DM.tear_eq, ← hmo]
      split
      · rename_i hpos
        split
        · obtain ⟨k, hk⟩ : ∃ k, f.2 + mo = k + 1 := ⟨f.2 + mo - 1, by omega⟩
          have hka : k < (all l).length := by omega
          have hget : (bs (f.1.extract 0 (f.2 + mo))).getD k 0 = (all l)[k] := by
            rw [hx, List.getD_eq_getElem?_getD, List.getElem?_take, if_pos (by omega), List.getElem?_eq_getElem hka]
            rfl
          have ht := WM.recs_torn l k (255 - (all l)[k]) hka h.fits (inv_ne _)
          refine ⟨within l k, WM.le_within l _ firm h.le (by omega), WM.within_le _ _, ?_⟩
          simp only
          rw [bs_flip _ (by omega), hxs, show f.2 + mo - 1 = k by omega, hget, hx, hk, ht]
        · exact plain
      · exact plain
    obtain ⟨j, hj1, hj2, hj3⟩ := key
    refine ⟨j, hj1, hj2, Fits.take h.fits j, ?_⟩
    rw [hq]
    exact ⟨hj3, ht.1⟩
theorem Torn.crash {fl : FL} {l : List Bs} (h : Torn fl l) (ps : List Int) : Torn (DM.crashL fl ps) l := by
  obtain ⟨qs, hq⟩ := look_crash fl ps walN
  refine ⟨h.fits, ?_⟩
  have hat := h.at_
  cases hl : DM.look fl walN with
  | none => rw [hl] at hat hq; rw [hq]; exact hat
  | some f =>
    rw [hl] at hat hq
    rw [hq]
    have ht := DM.tear_firm f qs hat.2
    simp only [Option.map_some, ht.1]
    exact hat

/- the records of bytes are what stands ahead -/
theorem head_take' (b0 b1 b2 b3 : UInt8) (t : Bs) (n : Nat) (s : Bs) (hn : num4 (b0 :: b1 :: b2 :: b3 :: t) = n) (hs : (t.drop 4).take n = s) (hl : s.length = n) (hc : be4 (WM.crc ([b0, b1, b2, b3] ++ s)) = t.take 4) :
    (b0 :: b1 :: b2 :: b3 :: t).take (8 + n) = rec_ s := by
  have e4 := WM.be4_num4 b0 b1 b2 b3 t
  rw [hn] at e4
  have h3 : (b0 :: b1 :: b2 :: b3 :: t).take (8 + n) = [b0, b1, b2, b3] ++ t.take (4 + n) := by
    rw [show 8 + n = (4 + n) + 4 by omega]; rfl
  unfold WM.rec_
  rw [hl, e4, hc, h3, ← hs, List.take_add]
theorem four_up : ∀ (b : Bs), ¬ b.length < 8 → ∃ b0 b1 b2 b3 t, b = b0 :: b1 :: b2 :: b3 :: t
  | b0 :: b1 :: b2 :: b3 :: t, _ => ⟨b0, b1, b2, b3, t, rfl⟩
  | [], h => by simp at h
  | [_], h => by simp at h
  | [_, _], h => by simp at h
  | [_, _, _], h => by simp at h
theorem head_take {b s : Bs} (h : head? b = some s) : b.take (8 + s.length) = rec_ s ∧ s.length ≤ 60000 := by
  unfold WM.head? at h
  split at h
  · cases h
  · rename_i h8
    split at h
    · cases h
    · rename_i hn
      split at h
      · rename_i hc
        have hs := Option.some.inj h
        have hl : ((b.drop 8).take (num4 b)).length = num4 b := by rw [List.length_take, List.length_drop]; omega
        rw [hs] at hc hl
        refine ⟨?_, by omega⟩
        clear h
        obtain ⟨b0, b1, b2, b3, t, rfl⟩ := four_up b h8
        rw [hl]
        exact head_take' b0 b1 b2 b3 t _ s rfl hs hl hc
      · cases h
theorem recs_take : ∀ (k : Nat) (b : Bs), b.length ≤ k → b.take (recs b).2 = all (recs b).1 ∧ (recs b).2 ≤ b.length ∧ Fits (recs b).1
  | 0, b, h => by
    have hb : b = [] := List.length_eq_zero_iff.1 (by omega)
    subst hb
    rw [WM.recs_short (by simp)]
    exact ⟨rfl, Nat.le_refl _, fun s hs => by simp at hs⟩
  | k + 1, b, h => by
    cases hh : head? b with
    | none => rw [WM.recs_none hh]; exact ⟨rfl, Nat.zero_le _, fun s hs => by simp at hs⟩
    | some s =>
      have hl := WM.head_len hh
      obtain ⟨h1, h2⟩ := head_take hh
      obtain ⟨i1, i2, i3⟩ := recs_take k (b.drop (8 + s.length)) (by rw [List.length_drop]; omega)
      rw [WM.recs_some hh]
      refine ⟨?_, ?_, ?_⟩
      · simp only
        rw [List.take_add, h1, i1, WM.all_cons]
      · simp only
        rw [List.length_drop] at i2
        omega
      · intro x hx
        rcases List.mem_cons.1 hx with rfl | hx
        · exact h2
        · exact i3 x hx

/- opening -/
theorem look_put_same (fl : FL) (k : N) (f : F) (hs : Sorted fl) : DM.look (DM.put fl k f) k = some f := by rw [DM.look_put fl k k f hs, if_pos rfl]
theorem clear_ends (d : D) (hs : Sorted d.fl) : ((clear d).1 = 0 → (clear d).2.off = d.off) ∧ DM.look (clear d).2.fl walN = DM.look d.fl walN ∧ Sorted (clear d).2.fl ∧ (d.off = false → d.left = 0 → (clear d).1 = 0 ∧ (clear d).2.left = 0) := by
  unfold clear
  split
  · rename_i h
    unfold DM.remove
    have hm := may_in d newN h.2 bad_new h.1
    rcases thn_fl d (DM.may1 d true newN) (fun l => DM.del l newN) with ⟨h1, h2, h3⟩ | ⟨h1, h2⟩
    · refine ⟨fun _ => h3, ?_, ?_, fun _ hl => ?_⟩
      · rw [h2, DM.look_del _ _ _ hs, if_neg (Ne.symm names_ne)]
      · rw [h2]; exact DM.sorted_del _ _ hs
      · rw [hm]; exact thn_left d _ hl
    · refine ⟨fun h => absurd h h1, by rw [h2], by rw [h2]; exact hs, fun _ hl => ?_⟩
      rw [hm]; exact thn_left d _ hl
  · exact ⟨fun _ => rfl, rfl, hs, fun _ hl => ⟨rfl, hl⟩⟩
theorem read_in (d : D) (n : N) (f : F) (ho : d.off = false) (hn : DM.bad n = false) (hl : DM.look d.fl n = some f) : DM.read d n = (f.1, 0) := by
  unfold DM.read
  rw [if_pos (may_in d n ho hn (by rw [hl]; rfl))]
  unfold DM.getF
  rw [hl]; rfl
theorem getF_of {fl : FL} {n : N} {f : F} (h : DM.look fl n = some f) : DM.getF fl n = f := by unfold DM.getF; rw [h]; rfl
/-- how opening ends on a log behind a crash -/
structure Opens (d : D) (l : List Bs) (r : (Int × D) × List Bs) : Prop where
  torn : Torn r.1.2.fl l
  sorted : Sorted r.1.2.fl
  good : r.1.1 = 0 → r.2 = l ∧ Inv r.1.2.fl l l.length ∧ r.1.2.off = false
  left : d.left = 0 → r.1.1 = 0 ∧ r.1.2.left = 0
theorem cutAt_ends (d : D) (f : F) (l : List Bs) (hs : Sorted d.fl) (ho : d.off = false) (hl : DM.look d.fl walN = some f) (hr : (recs (bs f.1)).1 = l) (hf : f.2 = f.1.size) (hfit : Fits l) :
    (((cutAt d (recs (bs f.1)).2 f.1.size).1 = 0 → (cutAt d (recs (bs f.1)).2 f.1.size).2.off = false ∧ ∃ g, DM.look (cutAt d (recs (bs f.1)).2 f.1.size).2.fl walN = some g ∧ bs g.1 = all l ∧ g.2 = g.1.size) ∧
      Torn (cutAt d (recs (bs f.1)).2 f.1.size).2.fl l ∧ Sorted (cutAt d (recs (bs f.1)).2 f.1.size).2.fl) ∧ (d.left = 0 → (cutAt d (recs (bs f.1)).2 f.1.size).1 = 0 ∧ (cutAt d (recs (bs f.1)).2 f.1.size).2.left = 0) := by
  obtain ⟨t1, t2, _⟩ := recs_take _ (bs f.1) (Nat.le_refl _)
  rw [hr] at t1
  rw [bs_length] at t2
  obtain ⟨n, hn⟩ : ∃ n, n = (recs (bs f.1)).2 := ⟨_, rfl⟩
  rw [← hn] at t1 t2 ⊢
  have hT : Torn d.fl l := ⟨hfit, by rw [hl]; exact ⟨hr, hf⟩⟩
  unfold cutAt
  split
  · rename_i he
    refine ⟨⟨fun _ => ⟨ho, f, hl, ?_, hf⟩, hT, hs⟩, fun h => ⟨rfl, h⟩⟩
    rw [← t1, List.take_of_length_le (by rw [bs_length]; omega)]
  · rename_i he
    have hm := may_in d walN ho bad_wal (by rw [hl]; rfl)
    have hc : DM.cut d walN (n : Int) = DM.thn d 0 (fun l => DM.put l walN ((DM.getF l walN).1.extract 0 n, min (DM.getF l walN).2 n)) := by
      unfold DM.cut
      simp only [hm]
      rw [if_neg (by rw [getF_of hl]; omega)]
      rfl
    rw [hc]
    have hsz : (f.1.extract 0 n).size = n := by rw [ByteArray.size_extract]; omega
    have hg : DM.look (DM.put d.fl walN ((DM.getF d.fl walN).1.extract 0 n, min (DM.getF d.fl walN).2 n)) walN = some (f.1.extract 0 n, min f.2 n) := by rw [look_put_same _ _ _ hs, getF_of hl]
    have hb : bs (f.1.extract 0 n) = all l := by rw [bs_take, t1]
    refine ⟨?_, fun h => thn_left d _ h⟩
    rcases thn_fl d 0 (fun l => DM.put l walN ((DM.getF l walN).1.extract 0 n, min (DM.getF l walN).2 n)) with ⟨h1, h2, h3⟩ | ⟨h1, h2⟩
    · refine ⟨fun _ => ⟨h3.trans ho, _, by rw [h2]; exact hg, hb, by simp only [hsz]; omega⟩, ⟨hfit, ?_⟩, ?_⟩
      · rw [h2, hg]
        exact ⟨by rw [hb, recs_all' hfit], by simp only [hsz]; omega⟩
      · rw [h2]; exact DM.sorted_put _ _ _ hs
    · exact ⟨fun h => absurd h h1, hT.of_look (by rw [h2]), by rw [h2]; exact hs⟩
theorem fixup_ends (d : D) (l : List Bs) (hT : Torn d.fl l) (hs : Sorted d.fl) (ho : d.off = false) (hi : (DM.look d.fl walN).isSome = true) : Opens d l (fixup d) := by
  cases hl : DM.look d.fl walN with
  | none => rw [hl] at hi; cases hi
  | some f =>
    have hat := hT.at_
    rw [hl] at hat
    have hrd := read_in d walN f ho bad_wal hl
    have hfx : fixup d = (if (seq (cutAt d (recs (bs f.1)).2 f.1.size) (fun d => DM.sync d walN)).1 = 0 then (seq (cutAt d (recs (bs f.1)).2 f.1.size) (fun d => DM.sync d walN), l)
        else (seq (cutAt d (recs (bs f.1)).2 f.1.size) (fun d => DM.sync d walN), [])) := by
      unfold fixup
      rw [hrd]
      simp only [if_true, hat.1]
    rw [hfx]
    obtain ⟨⟨c1, c2, c3⟩, c4⟩ := cutAt_ends d f l hs ho hl hat.1 hat.2 hT.fits
    obtain ⟨c, hc⟩ : ∃ c, c = cutAt d (recs (bs f.1)).2 f.1.size := ⟨_, rfl⟩
    rw [← hc] at c1 c2 c3 c4 ⊢
    simp only [seq]
    by_cases hc0 : c.1 = 0
    · rw [if_pos hc0]
      obtain ⟨o1, g, g1, g2, g3⟩ := c1 hc0
      have hm := may_in c.2 walN o1 bad_wal (by rw [g1]; rfl)
      have hsy : DM.sync c.2 walN = DM.thn c.2 0 (fun l => DM.put l walN ((DM.getF l walN).1, (DM.getF l walN).1.size)) := by unfold DM.sync; rw [hm]
      rw [hsy]
      have hg : DM.look (DM.put c.2.fl walN ((DM.getF c.2.fl walN).1, (DM.getF c.2.fl walN).1.size)) walN = some (g.1, g.1.size) := by rw [look_put_same _ _ _ c3, getF_of g1]
      rcases thn_fl c.2 0 (fun l => DM.put l walN ((DM.getF l walN).1, (DM.getF l walN).1.size)) with ⟨h1, h2, h3⟩ | ⟨h1, h2⟩
      · rw [if_pos h1]
        have hI : Inv (DM.thn c.2 0 (fun l => DM.put l walN ((DM.getF l walN).1, (DM.getF l walN).1.size))).2.fl l l.length := by
          refine ⟨hT.fits, Nat.le_refl _, ?_⟩
          rw [h2, hg]
          refine ⟨g2, ?_, Nat.le_refl _⟩
          simp only
          rw [List.take_length, ← g2, bs_length]
          exact Nat.le_refl _
        exact ⟨hI.torn, by rw [h2]; exact DM.sorted_put _ _ _ c3, fun _ => ⟨rfl, hI, h3.trans o1⟩, fun h => thn_left _ _ (c4 h).2⟩
      · rw [if_neg h1]
        exact ⟨c2.of_look (by rw [h2]), by rw [h2]; exact c3, fun h => absurd h h1, fun h => thn_left _ _ (c4 h).2⟩
    · rw [if_neg hc0, if_neg hc0]
      exact ⟨c2, c3, fun h => absurd h hc0, fun h => absurd (c4 h).1 hc0⟩
theorem opened_ends (d : D) (l : List Bs) (hT : Torn d.fl l) (hs : Sorted d.fl) (ho : d.off = false) : Opens d l (opened d) := by
  obtain ⟨k1, k2, k3, k4⟩ := clear_ends d hs
  unfold opened
  rw [if_neg (by simp [ho])]
  by_cases hc : (clear d).1 = 0
  · rw [if_pos hc]
    by_cases hi : (DM.look (clear d).2.fl walN).isSome = true
    · rw [if_pos hi]
      obtain ⟨f1, f2, f3, f4⟩ := fixup_ends (clear d).2 l (hT.of_look k2) k3 ((k1 hc).trans ho) hi
      exact ⟨f1, f2, f3, fun h => f4 (k4 ho h).2⟩
    · rw [if_neg hi]
      have hn : DM.look (clear d).2.fl walN = none := by
        cases h : DM.look (clear d).2.fl walN with
        | none => rfl
        | some f => rw [h] at hi; simp at hi
      have hl : l = [] := by have := hT.at_; rw [← k2, hn] at this; exact this
      subst hl
      have hI : Inv (clear d).2.fl [] 0 := ⟨hT.fits, Nat.le_refl _, by rw [hn]⟩
      exact ⟨hI.torn, k3, fun _ => ⟨rfl, hI, (k1 hc).trans ho⟩, fun h => ⟨rfl, (k4 ho h).2⟩⟩
  · rw [if_neg hc]
    exact ⟨hT.of_look k2, k3, fun h => absurd h hc, fun h => absurd (k4 ho h).1 hc⟩

/- changes -/
theorem app_fl (d : D) (k : N) (s : ByteArray) : (DM.append d k s).1 = 0 ∧ (DM.append d k s).2.fl = DM.put d.fl k ((DM.getF d.fl k).1 ++ s, (DM.getF d.fl k).2) ∧ (DM.append d k s).2.off = d.off ∨ (DM.append d k s).1 ≠ 0 ∧ (DM.append d k s).2.fl = d.fl := by
  unfold DM.append
  simp only
  split
  · right; exact ⟨by simp, rfl⟩
  · exact thn_fl _ _ _
theorem getF_le {fl : FL} {l : List Bs} {firm : Nat} (h : Inv fl l firm) : bs (DM.getF fl walN).1 = all l ∧ (all (l.take firm)).length ≤ (DM.getF fl walN).2 ∧ (DM.getF fl walN).2 ≤ (DM.getF fl walN).1.size := by
  have := h.at_
  unfold DM.getF
  cases hl : DM.look fl walN with
  | none =>
    rw [hl] at this
    subst this
    exact ⟨rfl, by simp [WM.all], Nat.le_refl _⟩
  | some f => rw [hl] at this; exact this
theorem all_take_append (l m : List Bs) (n : Nat) (h : n ≤ l.length) : (l ++ m).take n = l.take n := List.take_append_of_le_length h
theorem Inv.append {d : D} {l : List Bs} {firm : Nat} (h : Inv d.fl l firm) (hs : Sorted d.fl) (m : List Bs) (hm : Fits m) :
    ((DM.append d walN (ofBs (all m))).1 = 0 → Inv (DM.append d walN (ofBs (all m))).2.fl (l ++ m) firm) ∧ ((DM.append d walN (ofBs (all m))).1 ≠ 0 → Inv (DM.append d walN (ofBs (all m))).2.fl l firm) := by
  rcases app_fl d walN (ofBs (all m)) with ⟨h1, h2, _⟩ | ⟨h1, h2⟩
  · refine ⟨fun _ => ?_, fun h => absurd h1 h⟩
    obtain ⟨g1, g2, g3⟩ := getF_le h
    refine ⟨?_, by rw [List.length_append]; have := h.le; omega, ?_⟩
    · intro s hs
      rcases List.mem_append.1 hs with hs | hs
      · exact h.fits s hs
      · exact hm s hs
    · rw [h2, look_put_same _ _ _ hs]
      refine ⟨?_, ?_, ?_⟩
      · simp only
        rw [bs_append, g1, bs_ofBs, WM.all_append]
      · simp only
        rw [all_take_append _ _ _ h.le]
        exact g2
      · simp only [ByteArray.size_append]
        omega
  · exact ⟨fun h => absurd h h1, fun _ => h.of_look (by rw [h2])⟩
theorem sync_fl (d : D) (k : N) : (DM.sync d k).1 = 0 ∧ (DM.sync d k).2.fl = DM.put d.fl k ((DM.getF d.fl k).1, (DM.getF d.fl k).1.size) ∧ (DM.sync d k).2.off = d.off ∨ (DM.sync d k).1 ≠ 0 ∧ (DM.sync d k).2.fl = d.fl := thn_fl _ _ _
theorem Inv.sync {d : D} {l : List Bs} {firm : Nat} (h : Inv d.fl l firm) (hs : Sorted d.fl) :
    ((DM.sync d walN).1 = 0 → Inv (DM.sync d walN).2.fl l l.length) ∧ ((DM.sync d walN).1 ≠ 0 → Inv (DM.sync d walN).2.fl l firm) := by
  rcases sync_fl d walN with ⟨h1, h2, _⟩ | ⟨h1, h2⟩
  · refine ⟨fun _ => ?_, fun h => absurd h1 h⟩
    obtain ⟨g1, g2, g3⟩ := getF_le h
    refine ⟨h.fits, Nat.le_refl _, ?_⟩
    rw [h2, look_put_same _ _ _ hs]
    refine ⟨g1, ?_, Nat.le_refl _⟩
    simp only
    rw [List.take_length, ← g1, bs_length]
    exact Nat.le_refl _
  · exact ⟨fun h => absurd h h1, fun _ => h.of_look (by rw [h2])⟩
theorem sorted_step {d : D} {r : Int × D} {g : FL} (hs : Sorted d.fl) (hg : Sorted g) (h : r.1 = 0 ∧ r.2.fl = g ∧ r.2.off = d.off ∨ r.1 ≠ 0 ∧ r.2.fl = d.fl) : Sorted r.2.fl := by
  rcases h with ⟨_, h, _⟩ | ⟨_, h⟩ <;> rw [h]
  · exact hg
  · exact hs
theorem Inv.rewrite {d : D} {l : List Bs} {firm : Nat} (h : Inv d.fl l firm) (hs : Sorted d.fl) (m : List Bs) (hm : Fits m) :
    ((rewriteD d m).1 = 0 → Inv (rewriteD d m).2.fl m m.length) ∧ ((rewriteD d m).1 ≠ 0 → Inv (rewriteD d m).2.fl l firm) ∧ Sorted (rewriteD d m).2.fl := by
  obtain ⟨k1, k2, k3, k4⟩ := clear_ends d hs
  have hne := names_ne
  -- is there a new one behind the first step
  have hclear : (clear d).1 = 0 → DM.look (clear d).2.fl newN = none ∨ d.off = true := by
    unfold clear
    split
    · rename_i hh
      intro h0
      unfold DM.remove at h0 ⊢
      rcases thn_fl d (DM.may1 d true newN) (fun l => DM.del l newN) with ⟨h1, h2, h3⟩ | ⟨h1, h2⟩
      · left; rw [h2, DM.look_del _ _ _ hs, if_pos rfl]
      · exact absurd h0 h1
    · rename_i hh
      intro _
      cases ho : d.off with
      | true => exact .inr rfl
      | false =>
        left
        cases hl : DM.look d.fl newN with
        | none => rfl
        | some f => exact absurd ⟨by rw [hl]; rfl, ho⟩ hh
  unfold rewriteD
  simp only [seq]
  by_cases c0 : (clear d).1 = 0
  · rw [if_pos c0]
    obtain ⟨c, hc⟩ : ∃ c, c = (clear d).2 := ⟨_, rfl⟩
    have hcl := hclear c0
    have hoff := k1 c0
    rw [← hc] at k2 k3 hcl hoff ⊢
    have hI : Inv c.fl l firm := h.of_look k2
    have ha := app_fl c newN (ofBs (all m))
    have hsa := sorted_step k3 (DM.sorted_put c.fl newN ((DM.getF c.fl newN).1 ++ ofBs (all m), (DM.getF c.fl newN).2) k3) ha
    by_cases a0 : (DM.append c newN (ofBs (all m))).1 = 0
    · rw [if_pos a0]
      rcases ha with ⟨_, a2, a3⟩ | ⟨a1, _⟩
      · have ho : c.off = false := by
          cases ho : c.off with
          | false => rfl
          | true => rw [DM.append_off c newN _ ho] at a0; simp at a0
        have hno : DM.look c.fl newN = none := by
          rcases hcl with h1 | h1
          · exact h1
          · rw [hoff, h1] at ho; cases ho
        obtain ⟨a, hae⟩ : ∃ a, a = (DM.append c newN (ofBs (all m))).2 := ⟨_, rfl⟩
        rw [← hae] at a2 a3 hsa ⊢
        have hlw : DM.look a.fl walN = DM.look d.fl walN := by rw [a2, DM.look_put _ _ _ _ k3, if_neg (Ne.symm hne), k2]
        have hln : DM.look a.fl newN = some (ofBs (all m), 0) := by
          rw [a2, look_put_same _ _ _ k3]
          unfold DM.getF
          rw [hno]
          simp only [Option.getD_none]
          rw [DM.append_nil_left]
        have hsy := sync_fl a newN
        have hss := sorted_step hsa (DM.sorted_put a.fl newN ((DM.getF a.fl newN).1, (DM.getF a.fl newN).1.size) hsa) hsy
        by_cases s0 : (DM.sync a newN).1 = 0
        · rw [if_pos s0]
          rcases hsy with ⟨_, s2, s3⟩ | ⟨s1, _⟩
          · obtain ⟨s, hse⟩ : ∃ s, s = (DM.sync a newN).2 := ⟨_, rfl⟩
            rw [← hse] at s2 s3 hss ⊢
            have hlw2 : DM.look s.fl walN = DM.look d.fl walN := by rw [s2, DM.look_put _ _ _ _ hsa, if_neg (Ne.symm hne), hlw]
            have hln2 : DM.look s.fl newN = some (ofBs (all m), (ofBs (all m)).size) := by rw [s2, look_put_same _ _ _ hsa, getF_of hln]
            unfold DM.rename
            have hr := thn_fl s (DM.may2 s newN walN) (fun l => DM.put (DM.del l newN) walN (DM.getF l newN))
            have hsd := DM.sorted_del s.fl newN hss
            have hsr := sorted_step hss (DM.sorted_put (DM.del s.fl newN) walN (DM.getF s.fl newN) hsd) hr
            refine ⟨fun r0 => ?_, fun r0 => ?_, hsr⟩
            · rcases hr with ⟨_, r2, _⟩ | ⟨r1, _⟩
              · refine ⟨hm, Nat.le_refl _, ?_⟩
                rw [r2, look_put_same _ _ _ hsd, getF_of hln2]
                refine ⟨bs_ofBs _, ?_, Nat.le_refl _⟩
                simp only
                rw [List.take_length, ofBs_size]
                exact Nat.le_refl _
              · exact absurd r0 r1
            · rcases hr with ⟨r1, _⟩ | ⟨_, r2⟩
              · exact absurd r1 r0
              · exact h.of_look (by rw [r2, hlw2])
          · exact absurd s0 s1
        · simp only [if_neg s0]
          refine ⟨fun h => absurd h s0, fun _ => ?_, hss⟩
          rcases hsy with ⟨s1, _⟩ | ⟨_, s2⟩
          · exact absurd s1 s0
          · exact h.of_look (by rw [s2, hlw])
      · exact absurd a0 a1
    · simp only [if_neg a0]
      refine ⟨fun h => absurd h a0, fun _ => ?_, hsa⟩
      rcases ha with ⟨a1, _⟩ | ⟨_, a2⟩
      · exact absurd a1 a0
      · exact h.of_look (by rw [a2, k2])
  · simp only [if_neg c0]
    exact ⟨fun h => absurd h c0, fun _ => h.of_look k2, k3⟩
end Go.Proofs.YtmglkhnojimnlaaGreat.LM

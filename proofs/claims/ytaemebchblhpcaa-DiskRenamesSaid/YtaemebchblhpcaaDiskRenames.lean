/- law09: DiskRenames. -/
import Derived.Test.YtaemebchblhpcaaDiskTear
namespace Go.Proofs.Ytaemebchblhpcaa.DM
abbrev st : ByteArray := ⟨#[115, 116, 97, 121, 115]⟩
abbrev rn (l : FL) (done : Int) : D := ⟨100000, l, false, 0, done⟩
theorem rn1 (s : ByteArray) (hs : s.size ≤ 200) : append (new 100000) [97] s = (0, rn [([97], (s, 0))] 1) := by
  rw [append_done _ _ _ rfl rfl (by simp only [new, used]; omega) (show (0 : Int) ≠ 1 by decide)]
  have e : put (new 100000).fl [97] ((getF (new 100000).fl [97]).1 ++ s, (getF (new 100000).fl [97]).2) = [([97], (s, 0))] := by
    show [([97], ((⟨#[]⟩ : ByteArray) ++ s, 0))] = _
    rw [append_nil_left]
  rw [e]
  rfl
theorem rn2 (a : ByteArray) : sync (rn [([97], (a, 0))] 1) [97] = (0, rn [([97], (a, a.size))] 2) := rfl
theorem rn3 (a s : ByteArray) (l : Nat) (ha : a.size ≤ 200) (hs : s.size ≤ 200) : append (rn [([97], (a, l))] 2) [97] s = (0, rn [([97], (a ++ s, l))] 3) := by
  rw [append_done _ _ _ rfl rfl (by simp only [rn, used]; omega) (show (0 : Int) ≠ 1 by decide)]
  rfl
theorem rn4 (a s : ByteArray) (l : Nat) (ha : a.size ≤ 400) (hs : s.size ≤ 200) : append (rn [([97], (a, l))] 3) [98] s = (0, rn [([97], (a, l)), ([98], (s, 0))] 4) := by
  rw [append_done _ _ _ rfl rfl (by simp only [rn, used]; omega) (show (0 : Int) ≠ 1 by decide)]
  have e : put [([97], (a, l))] [98] ((getF [([97], (a, l))] [98]).1 ++ s, (getF [([97], (a, l))] [98]).2) = [([97], (a, l)), ([98], (s, 0))] := by
    show [([97], (a, l)), ([98], ((⟨#[]⟩ : ByteArray) ++ s, 0))] = _
    rw [append_nil_left]
  rw [e]
  rfl
theorem rn5 (a b : ByteArray) (l : Nat) : sync (rn [([97], (a, l)), ([98], (b, 0))] 4) [98] = (0, rn [([97], (a, l)), ([98], (b, b.size))] 5) := rfl
theorem rn6 (a b s : ByteArray) (l m : Nat) (ha : a.size ≤ 400) (hb : b.size ≤ 200) (hs : s.size ≤ 200) : append (rn [([97], (a, l)), ([98], (b, m))] 5) [98] s = (0, rn [([97], (a, l)), ([98], (b ++ s, m))] 6) := by
  rw [append_done _ _ _ rfl rfl (by simp only [rn, used]; omega) (show (0 : Int) ≠ 1 by decide)]
  rfl
theorem rn7 (a b : ByteArray) (l m : Nat) (ha : a.size ≤ 400) (hb : b.size ≤ 400) : append (rn [([97], (a, l)), ([98], (b, m))] 6) [99] st = (0, rn [([97], (a, l)), ([98], (b, m)), ([99], (st, 0))] 7) := by
  have hs : st.size = 5 := rfl
  rw [append_done _ _ _ rfl rfl (by simp only [rn, used]; omega) (show (0 : Int) ≠ 1 by decide)]
  have e : put [([97], (a, l)), ([98], (b, m))] [99] ((getF [([97], (a, l)), ([98], (b, m))] [99]).1 ++ st, (getF [([97], (a, l)), ([98], (b, m))] [99]).2) = [([97], (a, l)), ([98], (b, m)), ([99], (st, 0))] := rfl
  rw [e]
  rfl
theorem rn8 (a b : ByteArray) (l m : Nat) : sync (rn [([97], (a, l)), ([98], (b, m)), ([99], (st, 0))] 7) [99] = (0, rn [([97], (a, l)), ([98], (b, m)), ([99], (st, 5))] 8) := rfl
theorem rn9 (a b : ByteArray) (l m : Nat) : rename (rn [([97], (a, l)), ([98], (b, m)), ([99], (st, 5))] 8) [97] [98] = (0, rn [([98], (a, l)), ([99], (st, 5))] 9) := rfl
theorem rnA (a : ByteArray) (l : Nat) : read (rn [([98], (a, l)), ([99], (st, 5))] 9) [97] = (⟨#[]⟩, 12) := rfl
theorem rnB (a : ByteArray) (l : Nat) : read (rn [([98], (a, l)), ([99], (st, 5))] 9) [98] = (a, 0) := rfl
theorem rnC (a : ByteArray) (l : Nat) : read (rn [([98], (a, l)), ([99], (st, 5))] 9) [99] = (st, 0) := rfl
theorem rnD (a : ByteArray) (l : Nat) (ps : List Int) (h : l ≤ a.size) : crash (rn [([98], (a, l)), ([99], (st, 5))] 9) ps = rn [([98], ((tear (a, l) ps).1.1, (tear (a, l) ps).1.1.size)), ([99], (st, 5))] 9 := by
  have h1 := (tear_ok (a, l) ps h).1
  have h2 := (tear_firm (st, 5) (tear (a, l) ps).2 rfl).1
  unfold crash
  simp only [rn, crashL, h2]
  rw [← h1]
end Go.Proofs.Ytaemebchblhpcaa.DM
namespace Go.Proofs.Ytaemebchblhpcaa
open Go.RowKit Go.Maps Go.WideMaps
open DM (N F FL Sorted)

abbrev sB : ByteArray := ⟨#[98]⟩
abbrev sC : ByteArray := ⟨#[99]⟩
set_option maxRecDepth 10000 in
theorem Rd.two {w : World} {cs : Array Value} (h : Rd w 39 cs.toList) : ∃ s0 s1, cs = #[.string s0, .string s1] ∧ s0.size ≤ maxLen ∧ s1.size ≤ maxLen := by
  obtain ⟨hl, he⟩ := h.array Try.underlying39
  have hl2 : cs.toList.length = 2 := hl.trans (by kernel_rfl)
  have c1 : Try.prog.cellsOf 9 = 1 := by kernel_rfl
  obtain ⟨l⟩ := cs
  match l, hl2 with
  | [x, y], _ =>
    have h0 := he 0 (by omega)
    have h1 := he 1 (by omega)
    rw [c1] at h0 h1
    obtain ⟨a, ha, ka⟩ := Rd.string Try.underlying9 h0
    obtain ⟨b, hb, kb⟩ := Rd.string Try.underlying9 h1
    simp at ha hb
    exact ⟨a, b, by rw [ha, hb], ka, kb⟩

theorem Touch.setBoth {z w' : World} (h : Touch [] z w') (g i : Nat) (u : Value) (hg : g < z.heap.size) : Touch [] (z.setCell ⟨g, i, none⟩ u) (w'.setCell ⟨g, i, none⟩ u) := by
  refine ⟨h.os, h.tape, h.output, by simpa using h.size, fun k hk _ => ?_⟩
  have hk' : k < z.heap.size := by simpa using hk
  have hb := h.block k hk' (by simp)
  by_cases e : k = g
  · subst e
    simp only [World.setCell, Array.getElem?_modify, if_true, hb]
  · rw [heap_setCell_far w' _ _ e, heap_setCell_far z _ _ e, hb]
theorem Own.setBoth {z w : World} {b n : Nat} {d : DM.D} (h : Own z w b n d) (g i : Nat) (u : Value) (hg : g < z.heap.size) : Own (z.setCell ⟨g, i, none⟩ u) (w.setCell ⟨g, i, none⟩ u) b n d := by
  obtain ⟨mo, hd, T, hb, hm⟩ := h
  exact ⟨mo, hd.touch ((Touch.refl [g] w).setCell ⟨g, i, none⟩ u (.inl (by simp))) (by simp; omega) (fun m hm' => by have := hm m hm'; simp; omega), T.setBoth g i u hg, by simpa using hb, fun m hm' => by simpa using hm m hm'⟩
theorem Picks.touch {w w' : World} {v : Value} {ps : List Int} (h : Picks w v ps) (ht : Touch [] w w') : Picks w' v ps :=
  fun S hS => (h S (fun k hk => Nat.le_trans ht.size (hS k hk))).touch (ht.mono (by simp))

set_option maxRecDepth 10000 in
set_option maxHeartbeats 1600000 in
theorem renames_w (x0 x1 y0 y1 : ByteArray) (a2 : Option Addr) (l2 c2 : Nat) (w : World) (hx0 : x0.size ≤ maxLen) (hx1 : x1.size ≤ maxLen) (hy0 : y0.size ≤ maxLen) (hy1 : y1.size ≤ maxLen) (ps : List Int) (hp : Picks w (.slice a2 l2 c2) ps) :
    Calls Try.prog 6 #[.agg #[.string x0, .string x1], .agg #[.string y0, .string y1], .slice a2 l2 c2] w fun e w' => e = .returned (.bool true) ∧ Touch [] w w' := by
  have hsa : sA.size ≤ maxLen := by decide
  have hsb : sB.size ≤ maxLen := by decide
  have hsc : sC.size ≤ maxLen := by decide
  have HSA := Lib.hid hsa
  have HSB := Lib.hid hsb
  have HSC := Lib.hid hsc
  have HP := Lib.hid hp
  have sh0 := fun w => short_any w x0 200 hx0 (by omega)
  have sh1 := fun w => short_any w x1 200 hx1 (by omega)
  have sh2 := fun w => short_any w y0 200 hy0 (by omega)
  have sh3 := fun w => short_any w y1 200 hy1 (by omega)
  have z0 := (cutS_size x0 200).1
  have z1 := (cutS_size x1 200).1
  have z2 := (cutS_size y0 200).1
  have z3 := (cutS_size y1 200).1
  obtain ⟨a0, ha0⟩ : ∃ s, s = cutS x0 200 := ⟨_, rfl⟩
  obtain ⟨a1, ha1⟩ : ∃ s, s = cutS x1 200 := ⟨_, rfl⟩
  obtain ⟨b0, hb0⟩ : ∃ s, s = cutS y0 200 := ⟨_, rfl⟩
  obtain ⟨b1, hb1⟩ : ∃ s, s = cutS y1 200 := ⟨_, rfl⟩
  rw [← ha0] at sh0 z0
  rw [← ha1] at sh1 z1
  rw [← hb0] at sh2 z2
  rw [← hb1] at sh3 z3
  have S0 := Lib.hid sh0
  have S1 := Lib.hid sh1
  have S2 := Lib.hid sh2
  have S3 := Lib.hid sh3
  have Z0 := Lib.hid z0
  have Z1 := Lib.hid z1
  have Z2 := Lib.hid z2
  have Z3 := Lib.hid z3
  clear hsa hsb hsc hp sh0 sh1 sh2 sh3 ha0 ha1 hb0 hb1 hx0 hx1 hy0 hy1 z0 z1 z2 z3
  go_enter Try.func6, Try.ntmps6
  go_wp2_with fail
  refine (awake_any _).mono ?_
  rintro e w1 ⟨rfl, T1⟩
  have hX : Blk w1 w.heap.size 39 #[.string x0, .string x1] := T1.blk ((Blk.new w _ _).alloc _) (by simp)
  have hY : Blk w1 (w.heap.size + 1) 39 #[.string y0, .string y1] := T1.blk (Blk.new' (w.alloc _) _ _ (by simp)) (by simp)
  have T01 : Touch [] w w1 := (((Touch.refl [] w).alloc _).alloc _).trans T1 (by simp)
  clear T1
  obtain ⟨bx, hbx⟩ : ∃ b, b = w.heap.size := ⟨_, rfl⟩
  have hbxw : w.heap.size ≤ bx := by omega
  rw [← hbx] at hX hY
  simp only [← hbx]
  clear hbx
  go_wp2_with fail
  refine (new_own w1 _ (Touch.refl [] _) 100000 (by decide)).mono ?_
  rintro e w2 ⟨rfl, o2⟩
  have lx := hX.lt
  have ly := hY.lt
  have q0 : w2.cell? ⟨bx, 0, none⟩ = some (.string x0) := (o2.T.blk hX (by simp)).cell 0
  have q1 : w2.cell? ⟨bx, 1, none⟩ = some (.string x1) := (o2.T.blk hX (by simp)).cell 1
  have r0 : w2.cell? ⟨bx + 1, 0, none⟩ = some (.string y0) := (o2.T.blk hY (by simp)).cell 0
  have r1 : w2.cell? ⟨bx + 1, 1, none⟩ = some (.string y1) := (o2.T.blk hY (by simp)).cell 1
  have f0 := (o2.T.blk hX (by simp)).frozen 0
  have f1 := (o2.T.blk hX (by simp)).frozen 1
  have g0 := (o2.T.blk hY (by simp)).frozen 0
  have g1 := (o2.T.blk hY (by simp)).frozen 1
  go_wp2_with fail
  refine wp_loop_rounds 3 ?_
  rw [rounds_succ]
  go_wp2_with fail
  refine (S0.out _).mono ?_
  rintro e wx ⟨rfl, rfl⟩
  go_wp2_with fail
  refine (S2.out _).mono ?_
  rintro e wx ⟨rfl, rfl⟩
  go_wp2_with fail
  rw [rounds_succ]
  go_wp2_with fail
  refine (S1.out _).mono ?_
  rintro e wx ⟨rfl, rfl⟩
  go_wp2_with fail
  refine (S3.out _).mono ?_
  rintro e wx ⟨rfl, rfl⟩
  go_wp2_with fail
  rw [rounds_succ]
  go_wp2_with fail
  have o3 := (((o2.setBoth bx 0 (.string a0) lx).setBoth (bx + 1) 0 (.string b0) (by simpa using ly)).setBoth bx 1 (.string a1) (by simpa using lx)).setBoth (bx + 1) 1 (.string b1) (by simpa using ly)
  obtain ⟨z, hz⟩ : ∃ z, z = (((w1.setCell ⟨bx, 0, none⟩ (.string a0)).setCell ⟨bx + 1, 0, none⟩ (.string b0)).setCell ⟨bx, 1, none⟩ (.string a1)).setCell ⟨bx + 1, 1, none⟩ (.string b1) := ⟨_, rfl⟩
  have Tz : Touch [] w z := by
    rw [hz]
    exact (((T01.setCell _ _ (.inr hbxw)).setCell _ _ (.inr (Nat.le_succ_of_le hbxw))).setCell _ _ (.inr hbxw)).setCell _ _ (.inr (Nat.le_succ_of_le hbxw))
  have hXz : Blk z bx 39 #[.string a0, .string a1] := by
    rw [hz]
    exact (((hX.set_ 0 (.string a0)).far (p := ⟨bx + 1, 0, none⟩) (by simp) _).set_ 1 (.string a1)).far (p := ⟨bx + 1, 1, none⟩) (by simp) _
  have hYz : Blk z (bx + 1) 39 #[.string b0, .string b1] := by
    rw [hz]
    exact (((hY.far (p := ⟨bx, 0, none⟩) (by simp) _).set_ 0 (.string b0)).far (p := ⟨bx, 1, none⟩) (by simp) _).set_ 1 (.string b1)
  rw [← hz] at o3
  have HP3 := Lib.hid (HP.out.touch Tz)
  generalize (((wx.setCell ⟨bx, 0, none⟩ (.string a0)).setCell ⟨bx + 1, 0, none⟩ (.string b0)).setCell ⟨bx, 1, none⟩ (.string a1)).setCell ⟨bx + 1, 1, none⟩ (.string b1) = w3 at o3 ⊢
  clear hz o2 q0 q1 r0 r1 f0 f1 g0 g1 hX hY T01 lx ly HP S0 S1 S2 S3 hbxw
  have za0 := Z0.out
  have za1 := Z1.out
  have zb0 := Z2.out
  have zb1 := Z3.out
  have za : (a0 ++ a1).size ≤ 400 := by rw [ByteArray.size_append]; omega
  have zb : (b0 ++ b1).size ≤ 400 := by rw [ByteArray.size_append]; omega
  have u3 := append_own o3 (by omega) sA a0 HSA.out (by show 0 + a0.size ≤ _; omega) (DM.rn1 a0 za0)
  have U3 := Lib.hid u3
  have k1 : ∀ wc {n d}, Own z wc w1.heap.size n d → wc.cell? ⟨bx, 1, none⟩ = some (.string a1) := fun wc n d o => (o.T.blk hXz (by simp)).cell 1
  have k0 : ∀ wc {n d}, Own z wc w1.heap.size n d → wc.cell? ⟨bx, 0, none⟩ = some (.string a0) := fun wc n d o => (o.T.blk hXz (by simp)).cell 0
  have l0 : ∀ wc {n d}, Own z wc w1.heap.size n d → wc.cell? ⟨bx + 1, 0, none⟩ = some (.string b0) := fun wc n d o => (o.T.blk hYz (by simp)).cell 0
  have l1 : ∀ wc {n d}, Own z wc w1.heap.size n d → wc.cell? ⟨bx + 1, 1, none⟩ = some (.string b1) := fun wc n d o => (o.T.blk hYz (by simp)).cell 1
  have K1 := Lib.hid @k1
  have K0 := Lib.hid @k0
  have L0 := Lib.hid @l0
  have L1 := Lib.hid @l1
  have ZA := Lib.hid za
  have ZB := Lib.hid zb
  clear u3 k1 k0 l0 l1 za zb za0 za1 zb0 zb1 hXz hYz
  refine U3.out.mono ?_
  rintro e w4 ⟨rfl, o4⟩
  clear U3 o3
  go_wp2_with fail
  refine (sync_own o4 (by omega) sA HSA.out (DM.rn2 a0)).mono ?_
  rintro e w5 ⟨rfl, o5⟩
  clear o4
  have c1 := K1.out w5 o5
  go_wp2_with fail
  refine (append_own o5 (by omega) sA a1 HSA.out (by show a0.size + 0 + a1.size ≤ _; have := Z0.out; have := Z1.out; omega) (DM.rn3 a0 a1 a0.size Z0.out Z1.out)).mono ?_
  rintro e w6 ⟨rfl, o6⟩
  clear o5 c1
  have c1 := L0.out w6 o6
  go_wp2_with fail
  refine (append_own o6 (by omega) sB b0 HSB.out (by show (a0 ++ a1).size + 0 + b0.size ≤ _; have := ZA.out; have := Z2.out; omega) (DM.rn4 (a0 ++ a1) b0 a0.size ZA.out Z2.out)).mono ?_
  rintro e w7 ⟨rfl, o7⟩
  clear o6 c1
  go_wp2_with fail
  refine (sync_own o7 (by omega) sB HSB.out (DM.rn5 (a0 ++ a1) b0 a0.size)).mono ?_
  rintro e w8 ⟨rfl, o8⟩
  clear o7
  have c1 := L1.out w8 o8
  go_wp2_with fail
  refine (append_own o8 (by omega) sB b1 HSB.out (by show (a0 ++ a1).size + (b0.size + 0) + b1.size ≤ _; have := ZA.out; have := Z2.out; have := Z3.out; omega) (DM.rn6 (a0 ++ a1) b0 b1 a0.size b0.size ZA.out Z2.out Z3.out)).mono ?_
  rintro e w9 ⟨rfl, o9⟩
  clear o8 c1
  go_wp2_with fail
  refine (append_own o9 (by omega) sC DM.st HSC.out (by show (a0 ++ a1).size + ((b0 ++ b1).size + 0) + 5 ≤ _; have := ZA.out; have := ZB.out; omega) (DM.rn7 (a0 ++ a1) (b0 ++ b1) a0.size b0.size ZA.out ZB.out)).mono ?_
  rintro e wa ⟨rfl, oa⟩
  clear o9
  go_wp2_with fail
  refine (sync_own oa (by omega) sC HSC.out (DM.rn8 (a0 ++ a1) (b0 ++ b1) a0.size b0.size)).mono ?_
  rintro e wb ⟨rfl, ob⟩
  clear oa
  go_wp2_with fail
  refine (rename_own ob (by omega) sA sB HSA.out HSB.out (DM.rn9 (a0 ++ a1) (b0 ++ b1) a0.size b0.size)).mono ?_
  rintro e wc ⟨rfl, oc⟩
  clear ob
  go_wp2_with fail
  refine (read_own oc sA HSA.out (DM.rnA (a0 ++ a1) a0.size)).mono ?_
  rintro e wd ⟨rfl, od, _⟩
  clear oc
  go_wp2_with fail
  refine (read_own od sB HSB.out (DM.rnB (a0 ++ a1) a0.size)).mono ?_
  rintro e wf ⟨rfl, of', _⟩
  clear od
  have c0 := K0.out wf of'
  have c1 := K1.out wf of'
  have za0 := Z0.out
  have za1 := Z1.out
  have hle : a0.size ≤ (a0 ++ a1).size := by rw [ByteArray.size_append]; omega
  have HLE := Lib.hid hle
  clear hle
  go_wp2_with fail
  -- the crash
  have hpre : (a0 ++ a1).extract 0 a0.size = a0 := DM.extract_append a0 a1
  have hsz4 := ZA.out
  have hle := HLE.out
  clear ZA HLE c0 c1 za0 za1 ZB
  generalize a0 ++ a1 = s at of' hpre hsz4 hle ⊢
  have HLE := Lib.hid hle
  have hok := DM.tear_ok (s, a0.size) ps HLE.out
  have hmo := DM.more_le (s, a0.size) (DM.pick ps).1
  have hk1 := DM.tear_keeps (s, a0.size) ps a0.size HLE.out (.inl (Nat.le_refl _))
  have hcr := DM.rnD s a0.size ps HLE.out
  obtain ⟨t, ht⟩ : ∃ t, t = (DM.tear (s, a0.size) ps).1.1 := ⟨_, rfl⟩
  simp only at hk1 hok hmo
  rw [← ht] at hok hk1 hcr
  rw [hpre] at hk1
  have ht1 : a0.size ≤ t.size := by omega
  have ht2 : t.size ≤ s.size := by have := HLE.out; omega
  have HK1 := Lib.hid hk1
  have HCR := Lib.hid hcr
  have HT1 := Lib.hid ht1
  have HT2 := Lib.hid ht2
  clear hk1 hcr ht1 ht2 hok hmo ht
  refine (crash_in of' (by omega) a2 l2 c2 ps HP3.out HCR.out).mono ?_
  rintro e wg ⟨rfl, og⟩
  clear of'
  go_wp2_with fail
  refine (read_own og sB HSB.out (DM.rnB t t.size)).mono ?_
  rintro e wh ⟨rfl, oh, _⟩
  clear og
  go_wp2_with fail
  refine (read_own oh sC HSC.out (DM.rnC t t.size)).mono ?_
  rintro e wi ⟨rfl, oi, _⟩
  clear oh
  have c0 := K0.out wi oi
  have c1 : wi.drew.cell? ⟨bx, 0, none⟩ = some (.string a0) := c0
  have ht1 := HT1.out
  have ht2 := HT2.out
  have hk1 := HK1.out
  have cu : Calls Try.prog 16 #[.pointer (some ⟨w1.heap.size, 0, none⟩)] wi.drew fun e w' => e = .returned (.int .i64 (t.size + 5 : Nat)) ∧ Own z w' w1.heap.size 18 (DM.rn [([98], (t, t.size)), ([99], (DM.st, 5))] 9) ∧ Touch [] wi.drew w' := used_own (oi.touch (Touch.drewN [] wi 1)) (by omega)
  have CU := Lib.hid cu
  have hd1 : decide ((a0.size : Int) ≤ (t.size : Int)) = true := by simpa using ht1
  have hd2 : decide ((t.size : Int) ≤ (s.size : Int)) = true := by simpa using ht2
  have ht5 : (t.size : Int) ≤ 400 := by omega
  have hwr : IntKind.i64.wrap ((t.size : Int) + 5) = (t.size : Int) + 5 := IntWalk.i64_in _ (by omega)
  have HWR := Lib.hid hwr
  clear cu hwr
  go_wp2_with fail
  go_region_held3 (fun w' => w'.cell? ⟨bx, 0, none⟩ = some (.string a0)) (first | exact c0 | exact c1 | exact d0)
    (first
      | (go_at_call 16; refine CU.out.mono ?_; rintro e wj ⟨rfl, oj, Tj⟩; have d0 := K0.out wj oj))
  all_goals
    go_wp2_with fail
    go_ret
    exact ⟨ret_bool (by rw [HWR.out]; simp), Tz.trans oj.T (by simp)⟩

theorem renames_walk (cs ds : Array Value) (a2 : Option Addr) (l2 c2 : Nat) (w : World) (h0 : Rd w 39 cs.toList) (h1 : Rd w 39 ds.toList) (h2 : Rd w 23 [.slice a2 l2 c2]) :
    Calls Try.prog 6 #[.agg cs, .agg ds, .slice a2 l2 c2] w fun e w' => e = .returned (.bool true) ∧ Touch [] w w' := by
  obtain ⟨x0, x1, rfl, hx0, hx1⟩ := h0.two
  obtain ⟨y0, y1, rfl, hy0, hy1⟩ := h1.two
  obtain ⟨ps, hp⟩ := h2.picks
  exact renames_w x0 x1 y0 y1 a2 l2 c2 w hx0 hx1 hy0 hy1 ps hp
end Go.Proofs.Ytaemebchblhpcaa

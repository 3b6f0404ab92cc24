/- Package wal: whole, row, clear, have. -/
import Derived.Test.YtmglkhnojimnlaaGreatWal4
import Derived.Test.YtmglkhnojimnlaaGreatBuilder
namespace Go.Proofs.YtmglkhnojimnlaaGreat
open Go.RowKit Go.Maps

theorem byteCells_bs (s : ByteArray) : Lib.strCells s = Lib.byteCells (bs s) := rfl
theorem all_snoc (l : List WM.Bs) (i : Nat) (h : i < l.length) : WM.all (l.take (i + 1)) = WM.all (l.take i) ++ WM.rec_ l[i] := by
  rw [List.take_succ_eq_append_getElem h, WM.all_append]
  simp [WM.all]
set_option maxRecDepth 10000 in
set_option maxHeartbeats 800000 in
theorem whole_any (w : World) (a : Option Addr) (cap : Nat) (ss : List ByteArray) (ht : Texts w a ss) (hf : WM.Fits (ss.map bs)) (hsm : (WM.all (ss.map bs)).length ≤ 1099511627776) :
    Calls Tryz.prog 50 #[.slice a ss.length cap] w fun e w' => e = .returned (.tuple #[.string (ofBs (WM.all (ss.map bs))), .int .i64 0]) ∧ Touch [] w w' := by
  have hlen : ss.length ≤ 137438953472 := by have := lens_le (ss.map bs); rw [List.length_map] at this; omega
  have hlb : (ss.length : Int) ≤ 137438953472 := by omega
  have HF := Lib.hid hf
  have HSM := Lib.hid hsm
  have HT := Lib.hid ht
  obtain ⟨l, hl⟩ : ∃ l, l = ss.map bs := ⟨_, rfl⟩
  rw [← hl] at HF HSM ⊢
  have hll : l.length = ss.length := by rw [hl, List.length_map]
  have hat : ∀ i (h : i < ss.length) (h' : i < l.length), l[i]'h' = bs ss[i] := fun i h h' => by subst hl; simp
  have HLL := Lib.hid hll
  have HAT := Lib.hid hat
  have hb0 := builder_new w
  have HB0 := Lib.hid hb0
  clear hf hsm ht hl hll hat hlen hb0
  go_enter Tryz.func50, Tryz.ntmps50
  go_wp2_with fail
  go_loopw [11] (fun u wr => ∃ i : Nat, i ≤ ss.length ∧ u = .int .i64 i ∧ Lib.IsBuilderF 104 5 w.heap.size w.heap.size (Lib.byteCells (WM.all (l.take i))) wr ∧ Touch [] w wr) (fun u _ => ss.length - (intOf u).toNat)
  case atStart => exact ⟨0, Nat.zero_le _, rfl, HB0.out, (Touch.refl [] w).alloc _⟩
  case round =>
    obtain ⟨i, hi, rfl, hB, hT⟩ := hrel
    have HB := Lib.hid hB
    have HTT := Lib.hid hT
    clear hB hT
    by_cases hlt : i < ss.length
    · obtain ⟨blk, off, rfl, hc⟩ := HT.out i hlt
      have hcr := HTT.out.cell hc (by simp)
      have hfit := HF.out (l[i]'(by have := HLL.out; omega)) (List.getElem_mem _)
      rw [HAT.out i hlt, bs_length] at hfit
      have hle := WM.all_take_mono l (show i + 1 ≤ ss.length by omega)
      have htk : l.take ss.length = l := List.take_of_length_le (by have := HLL.out; omega)
      rw [htk] at hle
      have hsn := all_snoc l i (by have := HLL.out; omega)
      have hsnl := congrArg List.length hsn
      rw [List.length_append] at hsnl
      rw [HAT.out i hlt (by have := HLL.out; omega)] at hsn hsnl
      have hrec := fun W => record_any W ss[i] (by unfold maxLen; omega)
      rw [if_pos hfit, if_pos hfit] at hrec
      have hbw := fun W (hh : Lib.IsBuilderF 104 5 w.heap.size w.heap.size (Lib.byteCells (WM.all (l.take i))) W) (hs : w.heap.size ≤ W.heap.size) => bwrite_any w.heap.size w.heap.size (Lib.byteCells (WM.all (l.take i))) (recS ss[i]) W hh (by rw [Lib.byteCells_length, recS_size]; have := HSM.out; rw [WM.rec_length, bs_length] at hsnl; omega) hs
      rw [byteCells_bs, bs_recS, ← Lib.byteCells_append, ← hsn] at hbw
      obtain ⟨s, hs⟩ : ∃ s, s = ss[i] := ⟨_, rfl⟩
      obtain ⟨r, hr⟩ : ∃ r, r = recS s := ⟨_, rfl⟩
      rw [← hs, ← hr] at hrec hbw
      rw [← hs] at hcr
      have HR := Lib.hid hrec
      have HBW := Lib.hid hbw
      clear hrec hbw hsn hsnl hle hfit hs hr hc htk
      go_wp2_with fail
      refine (HR.out _).mono ?_
      rintro e w1 ⟨rfl, T1⟩
      go_wp2_with fail
      refine (HBW.out _ (builder_touch HB.out T1) (HTT.out.trans T1 (by simp)).size).mono ?_
      rintro e w2 ⟨rfl, hB2, hb2⟩
      have hT2 : Touch [] w w2 := by
        have t1 := (HTT.out.trans T1 (by simp)).below (Nat.le_refl _) (by simp)
        exact Touch.of_below (t1.trans hb2)
      have HB2 := Lib.hid hB2
      clear hB2 hb2 T1
      go_wp2_with fail
      go_roundw
      case rel => exact ⟨i + 1, by omega, by go_num, .inr HB2.out, hT2⟩
      case measure => simp [intOf]; omega
    · have hie : l.take i = l := List.take_of_length_le (by have := HLL.out; omega)
      rw [hie] at HB
      clear hie
      go_wp2_with fail
      refine (btext_any _ _ _ _ HB.out HTT.out.size).mono ?_
      rintro e w1 ⟨rfl, _, hb1⟩
      have hT2 : Touch [] w w1 := Touch.of_below ((HTT.out.below (Nat.le_refl _) (by simp)).trans hb1)
      clear hb1
      go_wp2_with fail
      go_ret2
      exact ⟨rfl, hT2⟩

/-- how 'row' ends -/
def RowEnd (Q : Int → World → Prop) (e : Ending) (w' : World) : Prop := ∃ k, e = .returned (.int .i64 k) ∧ Q k w'
set_option maxRecDepth 10000 in
theorem row_any (w : World) (g cap : Nat) (fs : List (Nat × Array Value)) (St : Nat → World → Prop) (Q : Int → World → Prop)
    (hcell : ∀ i W, St i W → ∀ j (h : j < fs.length), W.cell? ⟨g, j, none⟩ = some (.func (.func fs[j].1) #[] fs[j].2))
    (hen : ∀ j (h : j < fs.length) args W, (callFunc fs[j].1 args).run Tryz.prog W = .ok (.enter fs[j].1 args) W)
    (hstep : ∀ i (h : i < fs.length) W, St i W → Calls Tryz.prog fs[i].1 fs[i].2 W (RowEnd fun k W' => k = 0 ∧ St (i + 1) W' ∨ k ≠ 0 ∧ Q k W'))
    (h0 : St 0 w) (hend : ∀ W, St fs.length W → Q 0 W) (hsz : fs.length ≤ 1000) :
    Calls Tryz.prog 43 #[.slice (some ⟨g, 0, none⟩) fs.length cap] w (RowEnd Q) := by
  have HC := Lib.hid hcell
  have HE := Lib.hid hen
  have HS := Lib.hid hstep
  have H0 := Lib.hid h0
  have HN := Lib.hid hend
  have hlb : (fs.length : Int) ≤ 1000 := by omega
  clear hcell hen hstep h0 hend hsz
  go_enter Tryz.func43, Tryz.ntmps43
  go_wp2_with fail
  go_loopw [8] (fun u wr => ∃ i : Nat, i ≤ fs.length ∧ u = .int .i64 i ∧ St i wr) (fun u _ => fs.length - (intOf u).toNat)
  case atStart => exact ⟨0, Nat.zero_le _, rfl, H0.out⟩
  case round =>
    obtain ⟨i, hi, rfl, hst⟩ := hrel
    have HST := Lib.hid hst
    clear hst
    by_cases hlt : i < fs.length
    · have hc := HC.out i wr HST.out i hlt
      have he := HE.out i hlt
      have hs := HS.out i hlt wr HST.out
      obtain ⟨fn, hfn⟩ : ∃ fn, fn = fs[i].1 := ⟨_, rfl⟩
      obtain ⟨cb, hcb⟩ : ∃ cb, cb = fs[i].2 := ⟨_, rfl⟩
      rw [← hfn, ← hcb] at hc hs
      rw [← hfn] at he
      have HSS := Lib.hid hs
      clear hs hfn hcb
      go_wp2_with fail
      refine HSS.out.mono ?_
      rintro e w1 ⟨k, rfl, hk⟩
      have HK := Lib.hid hk
      clear hk hc he
      by_cases hk0 : k = 0
      · subst hk0
        have hst1 : St (i + 1) w1 := by
          rcases HK.out with ⟨_, h⟩ | ⟨h, _⟩
          · exact h
          · exact absurd rfl h
        have HS1 := Lib.hid hst1
        clear hst1
        go_wp2_with fail
        go_roundw
        case rel => exact ⟨i + 1, by omega, by go_num, HS1.out⟩
        case measure => simp [intOf]; omega
      · have hq : Q k w1 := by
          rcases HK.out with ⟨h, _⟩ | ⟨_, h⟩
          · exact absurd h hk0
          · exact h
        have HQ := Lib.hid hq
        have hk0' : (k == 0) = false := by simpa using hk0
        clear hq
        go_wp2_with fail
        go_ret
        exact ⟨k, rfl, HQ.out⟩
    · have hie : i = fs.length := by omega
      have hq : Q 0 wr := HN.out wr (hie ▸ HST.out)
      have HQ := Lib.hid hq
      clear hq hie
      go_wp2_with fail
      go_ret
      exact ⟨0, rfl, HQ.out⟩

theorem contains_any (w : World) (a : Option Addr) (cap : Nat) (l : DM.FL) (k : ByteArray) (hs : SliceS w a (DM.names l)) (hl : l.length ≤ 1099511627776) :
    Calls Tryz.prog 40 #[.slice a (DM.names l).length cap, .string k] w fun e w' => e = .returned (.bool (DM.look l (nm k)).isSome) ∧ w' = w := by
  have hb : (DM.look l (nm k)).isSome = Lib.containsS ((DM.names l).map str) k := by
    have h1 : (DM.look l (nm k)).isSome = true ↔ nm k ∈ DM.names l := by rw [← DM.look_names]; cases DM.look l (nm k) <;> simp
    have h2 : Lib.containsS ((DM.names l).map str) k = true ↔ nm k ∈ DM.names l := by
      rw [Lib.containsS_iff, List.mem_map]
      constructor
      · rintro ⟨x, hx, rfl⟩; rwa [nm_str]
      · intro h; exact ⟨nm k, h, str_nm k⟩
    rw [Bool.eq_iff_iff, h1, h2]
  rw [hb]
  rcases hs with h0 | ⟨g, rfl, hc⟩
  · have he : DM.names l = [] := h0
    rw [he]
    exact (Any.slices_Contains_string_empty Tryz.containsF a cap k w).mono fun e w' h => h
  · have := Any.slices_Contains_string Tryz.containsF g 0 (DM.names l).length cap ((DM.names l).map str) k w (by simp) (by simp [DM.names]; omega) (fun j hj => by
      rw [Nat.zero_add, hc j (by simpa using hj)]
      simp at hj
      simp [List.getD_eq_getElem?_getD, hj])
    rw [List.take_of_length_le (by simp)] at this
    exact this
end Go.Proofs.YtmglkhnojimnlaaGreat

/- Two entries held against each other (the document's Same). -/
import Derived.Test.YtibbfihnhlgkeaaCacheO
import Derived.Deep.DeepCutAuto
namespace Go.Proofs.Ytibbfihnhlgkeaa
open Go.RowKit Go.Maps Go.WideMaps
open NM (Bs bs ofBs)
open CM (It C)

theorem bs_data {a b : ByteArray} (h : a.toList = b.toList) : a = b := by
  have h1 : a.data.toList = b.data.toList := by rw [← ByteArray.toList_eq, ← ByteArray.toList_eq, h]
  have h2 : a.data = b.data := Array.toList_inj.1 h1
  cases a; cases b; simp_all
theorem neq_rr (r q : CM.R) : ∃ b : Bool, (b = true ↔ r ≠ q) ∧ ∀ w : World, (binOp .neq 68 (.agg #[.string r.name, .int .u16 r.type, .int .u16 r.cls, .int .u32 r.ttl, .string r.data]) (.agg #[.string q.name, .int .u16 q.type, .int .u16 q.cls, .int .u32 q.ttl, .string q.data])).run Try.prog w = .ok (.bool b) w := by
  obtain ⟨n, t, c, u, d⟩ := r
  obtain ⟨n', t', c', u', d'⟩ := q
  by_cases h1 : n.toList = n'.toList
  · by_cases h2 : t = t'
    · by_cases h3 : c = c'
      · by_cases h4 : u = u'
        · by_cases h5 : d.toList = d'.toList
          · refine ⟨false, ?_, fun w => by simp [go_sem, h1, h2, h3, h4, h5]⟩
            simp [bs_data h1, h2, h3, h4, bs_data h5]
          · refine ⟨true, ?_, fun w => by simp [go_sem, h1, h2, h3, h4, h5]⟩
            simp only [true_iff]
            intro e
            injection e with _ _ _ _ e5
            exact h5 (by rw [e5])
        · refine ⟨true, ?_, fun w => by simp [go_sem, h1, h2, h3, h4]⟩
          simp only [true_iff]
          intro e
          injection e
          contradiction
      · refine ⟨true, ?_, fun w => by simp [go_sem, h1, h2, h3]⟩
        simp only [true_iff]
        intro e
        injection e
        contradiction
    · refine ⟨true, ?_, fun w => by simp [go_sem, h1, h2]⟩
      simp only [true_iff]
      intro e
      injection e
      contradiction
  · refine ⟨true, ?_, fun w => by simp [go_sem, h1]⟩
    simp only [true_iff]
    intro e
    injection e with e1
    exact h1 (by rw [e1])
/-- all but the records are the same -/
def heads (a b : CM.E) : Prop := a.kind = b.kind ∧ a.name = b.name ∧ a.type = b.type ∧ a.cls = b.cls ∧ a.til = b.til ∧ a.rank = b.rank ∧ a.epoch = b.epoch ∧ a.src = b.src ∧ a.recs.length = b.recs.length
theorem heads_eq {a b : CM.E} (h : heads a b) (hr : a.recs = b.recs) : a = b := by
  obtain ⟨h1, h2, h3, h4, h5, h6, h7, h8, _⟩ := h
  cases a; cases b
  simp_all
/-- what Same says -/
def SameEnd (w : World) (a b : CM.E) (e : Ending) (w' : World) : Prop := (∃ r : Bool, e = .returned (.bool r) ∧ (r = true ↔ a = b)) ∧ Touch [] w w'
set_option maxRecDepth 10000 in
set_option maxHeartbeats 1000000 in
theorem same_any (w : World) (a b : CM.E) (ra rb : Value) (ha : RecsAt w ra a.recs) (hb : RecsAt w rb b.recs) (hla : a.recs.length ≤ 1000000) :
    Calls Try.prog 23 #[.agg (entV a ra), .agg (entV b rb)] w (SameEnd w a b) := by
  obtain ⟨aa, ca, rfl, hca, hcm, hac⟩ := ha
  obtain ⟨ab, cb, rfl, hcb, hcm2, hbc⟩ := hb
  obtain ⟨bad, hbad⟩ : ∃ bad : Bool, bad = true ↔ ¬ heads a b := by
    by_cases h : heads a b
    · exact ⟨false, by simp [h]⟩
    · exact ⟨true, by simp [h]⟩
  have HBAD := Lib.hid hbad
  have HA := Lib.hid hac
  have HB := Lib.hid hbc
  have HL := Lib.hid hla
  have H1 := Lib.hid ((Blk.new w 25 (entV a (.slice aa a.recs.length ca))).alloc (.cells (entV b (.slice ab b.recs.length cb)) 25))
  have H2 := Lib.hid (Blk.new' (w.alloc (.cells (entV a (.slice aa a.recs.length ca)) 25)) 25 (entV b (.slice ab b.recs.length cb)) (g := w.heap.size + 1) (by simp))
  have HT := Lib.hid (((Touch.refl [] w).alloc (.cells (entV a (.slice aa a.recs.length ca)) 25)).alloc (.cells (entV b (.slice ab b.recs.length cb)) 25))
  have HSA := Lib.hid (show ∀ n m, bs n = bs m → n = m from fun n m h => NM.bs_inj h)
  obtain ⟨na, hna⟩ : ∃ n, n = a.recs.length := ⟨_, rfl⟩
  obtain ⟨nb, hnb⟩ : ∃ n, n = b.recs.length := ⟨_, rfl⟩
  rw [← hna] at H1 H2 HT
  rw [← hnb] at H1 H2 HT
  have HN := Lib.hid (And.intro hna hnb)
  rw [← hna, ← hnb]
  clear hbad hac hbc hca hcm hcb hcm2 hla hna hnb
  show Calls Try.prog 23 #[.agg #[.int .i64 a.kind, .string a.name, .int .u16 a.type, .int .u16 a.cls, .slice aa na ca, .int .i64 a.til, .int .i64 a.rank, .int .i64 a.epoch, .int .i64 a.src], .agg #[.int .i64 b.kind, .string b.name, .int .u16 b.type, .int .u16 b.cls, .slice ab nb cb, .int .i64 b.til, .int .i64 b.rank, .int .i64 b.epoch, .int .i64 b.src]] w _
  obtain ⟨W0, hW0⟩ : ∃ W0, W0 = (w.alloc (.cells (entV a (.slice aa na ca)) 25)).alloc (.cells (entV b (.slice ab nb cb)) 25) := ⟨_, rfl⟩
  rw [← hW0] at H1 H2 HT
  have HW0 := Lib.hid hW0
  clear hW0
  go_enter Try.func23, Try.ntmps23
  go_upto_region 1 with (fail)
  change Code.wp _ _ _ _ ((w.alloc (.cells (entV a (.slice aa na ca)) 25)).alloc (.cells (entV b (.slice ab nb cb)) 25))
  rw [← HW0.out]
  go_cut [68] (fun s wx => s = .bool bad ∧ wx = W0)
  case first =>
    obtain ⟨k0, k1, k2, k3, k4, k5, k6, k7, k8⟩ := entCells H1.out
    obtain ⟨q0, q1, q2, q3, q4, q5, q6, q7, q8⟩ := entCells H2.out
    cases h0 : (a.kind != b.kind) with
    | true =>
      have HZ := Lib.hid (show bad = true from HBAD.out.2 (fun hh => by rw [hh.1] at h0; simp at h0))
      go_wp2_with fail
      go_meet
      exact ⟨by rw [HZ.out], rfl⟩
    | false =>
      cases h1 : (a.name.toList == b.name.toList) with
      | false =>
        have HZ := Lib.hid (show bad = true from HBAD.out.2 (fun hh => by rw [show a.name = b.name from hh.2.1] at h1; simp at h1))
        go_wp2_with fail
        go_meet
        exact ⟨by rw [HZ.out], rfl⟩
      | true =>
        cases h2 : (a.type != b.type) with
        | true =>
          have HZ := Lib.hid (show bad = true from HBAD.out.2 (fun hh => by rw [hh.2.2.1] at h2; simp at h2))
          go_wp2_with fail
          go_meet
          exact ⟨by rw [HZ.out], rfl⟩
        | false =>
          cases h3 : (a.cls != b.cls) with
          | true =>
            have HZ := Lib.hid (show bad = true from HBAD.out.2 (fun hh => by rw [hh.2.2.2.1] at h3; simp at h3))
            go_wp2_with fail
            go_meet
            exact ⟨by rw [HZ.out], rfl⟩
          | false =>
            cases h4 : (a.til != b.til) with
            | true =>
              have HZ := Lib.hid (show bad = true from HBAD.out.2 (fun hh => by rw [hh.2.2.2.2.1] at h4; simp at h4))
              go_wp2_with fail
              go_meet
              exact ⟨by rw [HZ.out], rfl⟩
            | false =>
              cases h5 : (a.rank != b.rank) with
              | true =>
                have HZ := Lib.hid (show bad = true from HBAD.out.2 (fun hh => by rw [hh.2.2.2.2.2.1] at h5; simp at h5))
                go_wp2_with fail
                go_meet
                exact ⟨by rw [HZ.out], rfl⟩
              | false =>
                cases h6 : (a.epoch != b.epoch) with
                | true =>
                  have HZ := Lib.hid (show bad = true from HBAD.out.2 (fun hh => by rw [hh.2.2.2.2.2.2.1] at h6; simp at h6))
                  go_wp2_with fail
                  go_meet
                  exact ⟨by rw [HZ.out], rfl⟩
                | false =>
                  cases h7 : (a.src != b.src) with
                  | true =>
                    have HZ := Lib.hid (show bad = true from HBAD.out.2 (fun hh => by rw [hh.2.2.2.2.2.2.2.1] at h7; simp at h7))
                    go_wp2_with fail
                    go_meet
                    exact ⟨by rw [HZ.out], rfl⟩
                  | false =>
                    cases h8 : ((na : Int) != (nb : Int)) with
                    | true =>
                      have HZ := Lib.hid (show bad = true from HBAD.out.2 (fun hh => by have := hh.2.2.2.2.2.2.2.2; rw [← HN.out.1, ← HN.out.2] at this; rw [this] at h8; simp at h8))
                      go_wp2_with fail
                      go_meet
                      exact ⟨by rw [HZ.out], rfl⟩
                    | false =>
                      have HZ := Lib.hid (show bad = false from by
                        have hI8 : (na : Int) = (nb : Int) := by simpa using h8
                        have hh : heads a b := ⟨by simpa using h0, bs_data (by simpa using h1), by simpa using h2, by simpa using h3, by simpa using h4, by simpa using h5, by simpa using h6, by simpa using h7, by rw [← HN.out.1, ← HN.out.2]; exact Int.ofNat_inj.1 hI8⟩
                        exact Bool.eq_false_iff.2 (fun h => (HBAD.out.1 h) hh))
                      go_wp2_with fail
                      go_meet
                      exact ⟨by rw [HZ.out], rfl⟩
  case rest =>
    obtain ⟨rfl, hw⟩ := hcut
    obtain rfl := hw.symm
    cases bad with
    | true =>
      have HX := Lib.hid (show ¬ a = b from fun h => HBAD.out.1 rfl (by rw [h]; exact ⟨rfl, rfl, rfl, rfl, rfl, rfl, rfl, rfl, rfl⟩))
      go_wp2_with fail
      go_ret
      exact ⟨⟨false, rfl, by simp [HX.out]⟩, HT.out⟩
    | false =>
      have HH := Lib.hid (show heads a b from Classical.byContradiction fun h => by have := HBAD.out.2 h; cases this)
      have hnn : nb = na := by rw [HN.out.1, HN.out.2]; exact HH.out.2.2.2.2.2.2.2.2.symm
      subst hnn
      go_wp2_with fail
      go_loopw [5] (fun s5 wr => ∃ i : Nat, s5 = .int .i64 (i : Int) ∧ i ≤ nb ∧ (∀ j (hj : j < a.recs.length) (hj2 : j < b.recs.length), j < i → a.recs[j] = b.recs[j]) ∧ Touch [] W0 wr) (fun s5 _ => nb - (intOf s5).toNat)
      case atStart => exact ⟨0, rfl, Nat.zero_le _, fun j _ _ h => absurd h (Nat.not_lt_zero _), Touch.refl _ _⟩
      case round =>
        obtain ⟨i, rfl, hi, hall, hT⟩ := hrel
        obtain ⟨wo, rfl⟩ : ∃ wo, wo = wr := ⟨_, rfl⟩
        have HAL := Lib.hid hall
        have HTT := Lib.hid hT
        have k4 : wo.cell? ⟨w.heap.size, 4, none⟩ = some (.slice aa nb ca) := (hT.blk H1.out (by simp)).cell 4
        have q4 : wo.cell? ⟨w.heap.size + 1, 4, none⟩ = some (.slice ab nb cb) := (hT.blk H2.out (by simp)).cell 4
        clear hall hT
        by_cases hlt : i < nb
        · have ia : i < a.recs.length := by rw [← HN.out.1]; exact hlt
          have ib : i < b.recs.length := by rw [← HN.out.2]; exact hlt
          have hltI : (i : Int) < (nb : Int) := by omega
          have HWR := Lib.hid (show wrap64 ((i : Int) + 1) = (i : Int) + 1 from IntWalk.wrap64_in _ (by have := HL.out; omega))
          obtain ⟨g, off, rfl, hgl, hc⟩ := HA.out (by omega)
          obtain ⟨g2, off2, rfl, hgl2, hc2⟩ := HB.out (by omega)
          obtain ⟨r, hr⟩ : ∃ r, r = a.recs[i] := ⟨_, rfl⟩
          obtain ⟨q, hq⟩ : ∃ r, r = b.recs[i] := ⟨_, rfl⟩
          have hcc : ∀ j, j < 5 → w.cell? ⟨g, off + (i * 5 + j), none⟩ = (recV r)[j]? := by rw [hr]; exact hc i ia
          have hcc2 : ∀ j, j < 5 → w.cell? ⟨g2, off2 + (i * 5 + j), none⟩ = (recV q)[j]? := by rw [hq]; exact hc2 i ib
          obtain ⟨bn, hbn, hne⟩ := neq_rr r q
          have HBN := Lib.hid (show bn = true ↔ a.recs[i] ≠ b.recs[i] by rw [hbn, hr, hq])
          have HI := Lib.hid (And.intro ia (And.intro ib hlt))
          have HTW := Lib.hid (HT.out.trans HTT.out (by simp))
          obtain ⟨n1, t1, c1, u1, e1⟩ := r
          obtain ⟨n2, t2, c2, u2, e2⟩ := q
          have d0 : wo.cell? ⟨g, off + i * 5, none⟩ = some (.string n1) := touch_cell HTW.out (hcc 0 (by decide)) (by simp)
          have d1 : wo.cell? ⟨g, off + i * 5 + 1, none⟩ = some (.int .u16 t1) := touch_cell HTW.out (hcc 1 (by decide)) (by simp)
          have d2 : wo.cell? ⟨g, off + i * 5 + 2, none⟩ = some (.int .u16 c1) := touch_cell HTW.out (hcc 2 (by decide)) (by simp)
          have d3 : wo.cell? ⟨g, off + i * 5 + 3, none⟩ = some (.int .u32 u1) := touch_cell HTW.out (hcc 3 (by decide)) (by simp)
          have d4 : wo.cell? ⟨g, off + i * 5 + 4, none⟩ = some (.string e1) := touch_cell HTW.out (hcc 4 (by decide)) (by simp)
          have f0 : wo.cell? ⟨g2, off2 + i * 5, none⟩ = some (.string n2) := touch_cell HTW.out (hcc2 0 (by decide)) (by simp)
          have f1 : wo.cell? ⟨g2, off2 + i * 5 + 1, none⟩ = some (.int .u16 t2) := touch_cell HTW.out (hcc2 1 (by decide)) (by simp)
          have f2 : wo.cell? ⟨g2, off2 + i * 5 + 2, none⟩ = some (.int .u16 c2) := touch_cell HTW.out (hcc2 2 (by decide)) (by simp)
          have f3 : wo.cell? ⟨g2, off2 + i * 5 + 3, none⟩ = some (.int .u32 u2) := touch_cell HTW.out (hcc2 3 (by decide)) (by simp)
          have f4 : wo.cell? ⟨g2, off2 + i * 5 + 4, none⟩ = some (.string e2) := touch_cell HTW.out (hcc2 4 (by decide)) (by simp)
          simp only at hne
          clear hr hq hcc hcc2 hbn hi hlt hc hc2 hgl hgl2
          cases bn with
          | true =>
            have HX := Lib.hid (show ¬ a = b from fun h => HBN.out.1 rfl (by simp only [h]))
            go_wp2_with fail
            go_quiet (fail)
            go_wp2_with fail
            go_ret
            exact ⟨⟨false, rfl, by simp [HX.out]⟩, HTW.out.drewN_ _⟩
          | false =>
            have hwr := HWR.out
            go_wp2_with fail
            go_quiet (fail)
            go_wp2_with fail
            go_roundw
            case rel =>
              refine ⟨i + 1, by rw [hwr]; rfl, HI.out.2.2, fun j hj hj2 hji => ?_, HTT.out.drewN_ _⟩
              by_cases e1 : j = i
              · subst e1
                exact Classical.byContradiction fun h => by have := HBN.out.2 h; cases this
              · exact HAL.out j hj hj2 (by omega)
            case measure => exact lt_sub_of (x := i + 1) (i := i) (by rw [hwr]; rfl) rfl (Nat.sub_lt_sub_left HI.out.2.2 (Nat.lt_succ_self i))
        · have hge : (nb : Int) ≤ (i : Int) := by omega
          have HX := Lib.hid (show a = b from heads_eq HH.out (List.ext_getElem HH.out.2.2.2.2.2.2.2.2 (fun j h1 h2 => HAL.out j h1 h2 (by have := HN.out.1; omega))))
          clear hlt hi
          go_wp2_with fail
          go_ret
          exact ⟨⟨true, rfl, by simp [HX.out]⟩, HT.out.trans HTT.out (by simp)⟩
end Go.Proofs.Ytibbfihnhlgkeaa

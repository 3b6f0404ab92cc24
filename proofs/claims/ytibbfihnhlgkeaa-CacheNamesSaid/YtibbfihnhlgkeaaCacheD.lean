/- The document's cache (fingerpostref16): Check. -/
import Derived.Test.YtibbfihnhlgkeaaCacheC
namespace Go.Proofs.Ytibbfihnhlgkeaa
open Go.RowKit Go.Maps Go.Shelf
open NM (Bs bs ofBs)

set_option maxRecDepth 10000 in
set_option maxHeartbeats 4000000 in
theorem rccheck_any (w : World) (e : CM.E) (rv : Value) (hf : EFits e) (hrec : RecsAt w rv e.recs) : Calls Try.prog 14 #[.agg (entV e rv)] w fun e1 w' => e1 = .returned (.int .i64 (CM.check e)) ∧ Touch [] w w' := by
  obtain ⟨q, hq⟩ : ∃ q, q = CM.check e := ⟨_, rfl⟩
  have HB1 := Lib.hid (@check_bad1 e)
  have HB2 := Lib.hid (@check_bad2 e)
  have HB3 := Lib.hid (@check_bad3 e)
  have HG := Lib.hid (@check_good e)
  rw [← hq] at HB1 HB2 HB3 HG ⊢
  have HF := Lib.hid hf
  have HBk := Lib.hid (Blk.new w 25 (entV e rv))
  have HCK := Lib.hid (fun W => rcheck_any W e.name hf.1)
  obtain ⟨k, hk⟩ : ∃ k, k = NM.check (bs e.name) := ⟨_, rfl⟩
  rw [← hk] at HCK
  have hhead : CM.okHead e = decide ((1 ≤ e.kind ∧ e.kind ≤ 3) ∧ k = 0 ∧ (0 ≤ e.til ∧ e.til ≤ 1125899906842624) ∧ (1 ≤ e.rank ∧ e.rank ≤ 4) ∧ (0 ≤ e.epoch ∧ e.epoch ≤ 1099511627776)) := by
    unfold CM.okHead; rw [hk]
  have HBAD := Lib.hid (fun h : ¬ ((1 ≤ e.kind ∧ e.kind ≤ 3) ∧ k = 0 ∧ (0 ≤ e.til ∧ e.til ≤ 1125899906842624) ∧ (1 ≤ e.rank ∧ e.rank ≤ 4) ∧ (0 ≤ e.epoch ∧ e.epoch ≤ 1099511627776)) => HB1.out (by rw [hhead]; exact decide_eq_false h))
  have HHD0 := Lib.hid (fun h : ((1 ≤ e.kind ∧ e.kind ≤ 3) ∧ k = 0 ∧ (0 ≤ e.til ∧ e.til ≤ 1125899906842624) ∧ (1 ≤ e.rank ∧ e.rank ≤ 4) ∧ (0 ≤ e.epoch ∧ e.epoch ≤ 1099511627776)) => show CM.okHead e = true from by rw [hhead]; exact decide_eq_true h)
  have HSE := Lib.hid (fun (h : k = 0) (x : Bs) => NM.same_eq x (b := bs e.name) (by rw [← hk]; exact h))
  obtain ⟨a, cap, rfl, hlc, hcm, hcells⟩ := hrec
  have hlenI : (e.recs.length : Int) ≤ 9223372036854775807 := by unfold maxLen at hcm; omega
  have HC := Lib.hid hcells
  have HI := Lib.hid (And.intro hlc (And.intro hcm hlenI))
  clear hhead hk hcells hlc hcm hlenI hq hf
  show Calls Try.prog 14 #[.agg #[.int .i64 e.kind, .string e.name, .int .u16 e.type, .int .u16 e.cls, .slice a e.recs.length cap, .int .i64 e.til, .int .i64 e.rank, .int .i64 e.epoch, .int .i64 e.src]] w fun e1 w' => e1 = .returned (.int .i64 q) ∧ Touch [] w w'
  have HT0 := Lib.hid ((Touch.refl [] w).alloc (.cells (entV e (.slice a e.recs.length cap)) 25))
  go_enter Try.func14, Try.ntmps14
  by_cases h1 : 1 ≤ e.kind
  case neg =>
    have H1 := Lib.hid (HBAD.out (fun h => h1 h.1.1))
    go_wp2_with fail
    go_ret
    exact ⟨by rw [H1.out]; rfl, HT0.out⟩
  case pos =>
  by_cases h2 : e.kind ≤ 3
  case neg =>
    have H1 := Lib.hid (HBAD.out (fun h => h2 h.1.2))
    go_wp2_with fail
    go_ret
    exact ⟨by rw [H1.out]; rfl, HT0.out⟩
  case pos =>
  go_wp2_with fail
  refine (HCK.out _).mono ?_
  rintro e1 w1 ⟨rfl, T1⟩
  have hB1 := T1.blk HBk.out (by simp)
  have HB := Lib.hid hB1
  have HT1 := Lib.hid (HT0.out.trans T1 (by simp))
  have c0 : w1.cell? ⟨w.heap.size, 0, none⟩ = some (.int .i64 e.kind) := hB1.cell 0
  have c2 : w1.cell? ⟨w.heap.size, 2, none⟩ = some (.int .u16 e.type) := hB1.cell 2
  have c4 : w1.cell? ⟨w.heap.size, 4, none⟩ = some (.slice a e.recs.length cap) := hB1.cell 4
  have c5 : w1.cell? ⟨w.heap.size, 5, none⟩ = some (.int .i64 e.til) := hB1.cell 5
  have c6 : w1.cell? ⟨w.heap.size, 6, none⟩ = some (.int .i64 e.rank) := hB1.cell 6
  have c7 : w1.cell? ⟨w.heap.size, 7, none⟩ = some (.int .i64 e.epoch) := hB1.cell 7
  clear hB1 T1
  by_cases hk : k = 0
  case neg =>
    have H1 := Lib.hid (HBAD.out (fun h => hk h.2.1))
    go_wp2_with fail
    go_ret
    exact ⟨by rw [H1.out]; rfl, HT1.out⟩
  case pos =>
  subst hk
  by_cases t0 : 0 ≤ e.til
  case neg =>
    have H1 := Lib.hid (HBAD.out (fun h => t0 h.2.2.1.1))
    go_wp2_with fail
    go_ret
    exact ⟨by rw [H1.out]; rfl, HT1.out⟩
  case pos =>
  by_cases t1 : e.til ≤ 1125899906842624
  case neg =>
    have H1 := Lib.hid (HBAD.out (fun h => t1 h.2.2.1.2))
    go_wp2_with fail
    go_ret
    exact ⟨by rw [H1.out]; rfl, HT1.out⟩
  case pos =>
  by_cases t2 : 1 ≤ e.rank
  case neg =>
    have H1 := Lib.hid (HBAD.out (fun h => t2 h.2.2.2.1.1))
    go_wp2_with fail
    go_ret
    exact ⟨by rw [H1.out]; rfl, HT1.out⟩
  case pos =>
  by_cases t3 : e.rank ≤ 4
  case neg =>
    have H1 := Lib.hid (HBAD.out (fun h => t3 h.2.2.2.1.2))
    go_wp2_with fail
    go_ret
    exact ⟨by rw [H1.out]; rfl, HT1.out⟩
  case pos =>
  by_cases t4 : 0 ≤ e.epoch
  case neg =>
    have H1 := Lib.hid (HBAD.out (fun h => t4 h.2.2.2.2.1))
    go_wp2_with fail
    go_ret
    exact ⟨by rw [H1.out]; rfl, HT1.out⟩
  case pos =>
  by_cases t5 : e.epoch ≤ 1099511627776
  case neg =>
    have H1 := Lib.hid (HBAD.out (fun h => t5 h.2.2.2.2.2))
    go_wp2_with fail
    go_ret
    exact ⟨by rw [H1.out]; rfl, HT1.out⟩
  case pos =>
  have HHD := Lib.hid (HHD0.out ⟨⟨h1, h2⟩, rfl, ⟨t0, t1⟩, ⟨t2, t3⟩, ⟨t4, t5⟩⟩)
  obtain ⟨hi, hhi⟩ : ∃ hi : Int, (e.kind = 1 ∧ hi = 64) ∨ (e.kind ≠ 1 ∧ hi = 1) := by
    by_cases h : e.kind = 1
    · exact ⟨64, .inl ⟨h, rfl⟩⟩
    · exact ⟨1, .inr ⟨h, rfl⟩⟩
  have HHI := Lib.hid hhi
  have hlen : CM.okLen e = (!(decide (e.kind = 1) && decide (e.recs.length = 0)) && !(decide (e.kind = 3) && !decide (e.type = 0)) && decide ((e.recs.length : Int) ≤ hi)) := by
    unfold CM.okLen
    rcases hhi with ⟨h, rfl⟩ | ⟨h, rfl⟩
    · rw [if_pos h, if_pos h]
      have h3 : ¬ (e.kind = 3) := by omega
      by_cases hz : e.recs.length = 0 <;> by_cases hy : e.recs.length ≤ 64 <;> simp [h, hz, hy] <;> omega
    · rw [if_neg h, if_neg h]
      by_cases h3 : e.kind = 3 <;> by_cases h4 : e.type = 0 <;> by_cases hy : e.recs.length ≤ 1 <;> simp [h, h3, h4, hy] <;> omega
  have HL := Lib.hid hlen
  clear hhi hlen
  go_upto_if 53 with (fail)
  clear t0 t1 t2 t3 t4 t5 h1 h2
  go_cut [3] from 51 to 57 (fun s3 wx => s3 = .int .i64 hi ∧ wx = w1 ∧ ¬ (e.kind = 1 ∧ e.recs.length = 0))
  case first =>
    rcases HHI.out with ⟨h, rfl⟩ | ⟨h, rfl⟩
    · have h2 : (e.kind == 1) = true := by simpa using h
      by_cases hz : e.recs.length = 0
      · have H1 := Lib.hid (HB2.out (by rw [HL.out, decide_eq_true h, decide_eq_true hz]; rfl))
        have hz2 : ((e.recs.length : Int) == 0) = true := by simp [hz]
        clear h hz
        go_wp2_with fail
        go_ret
        exact ⟨by rw [H1.out]; rfl, HT1.out⟩
      · have hz2 : ((e.recs.length : Int) == 0) = false := by simp; exact fun e2 => hz (by rw [e2]; rfl)
        have HZ := Lib.hid hz
        clear h hz
        go_wp2_with fail
        go_meet
        exact ⟨rfl, rfl, fun h => HZ.out h.2⟩
    · have h2 : (e.kind == 1) = false := by simpa using h
      have HK := Lib.hid h
      clear h
      go_wp2_with fail
      go_meet
      exact ⟨rfl, rfl, fun h => HK.out h.1⟩
  case rest =>
  obtain ⟨rfl, hwx, hnz⟩ := hcut
  obtain rfl := hwx.symm
  have HNZ := Lib.hid hnz
  clear hnz
  by_cases hbad : e.kind = 3 ∧ e.type ≠ 0
  case pos =>
    have H1 := Lib.hid (HB2.out (by rw [HL.out, decide_eq_true hbad.1, decide_eq_false hbad.2]; simp))
    have h2 : (e.kind == 3) = true := by simpa using hbad.1
    have h3 : (e.type != 0) = true := by simpa using hbad.2
    clear hbad
    go_wp2_with fail
    go_ret
    exact ⟨by rw [H1.out]; rfl, HT1.out⟩
  case neg =>
  have hor : ((e.kind == 3) = false) ∨ ((e.kind == 3) = true ∧ (e.type != 0) = false) := by
    by_cases h3 : e.kind = 3
    · have h4 : e.type = 0 := Classical.byContradiction fun h => hbad ⟨h3, h⟩
      exact .inr ⟨by simpa using h3, by simp [h4]⟩
    · exact .inl (by simpa using h3)
  have HN3 := Lib.hid hbad
  clear hbad
  by_cases hle : (e.recs.length : Int) ≤ hi
  case neg =>
    have H1 := Lib.hid (HB2.out (by rw [HL.out, decide_eq_false hle]; simp))
    have hgt : hi < (e.recs.length : Int) := by omega
    clear hle
    rcases hor with h2 | ⟨h2, h3⟩
    all_goals
      go_wp2_with fail
      go_ret
      exact ⟨by rw [H1.out]; rfl, HT1.out⟩
  case pos =>
  have HLN := Lib.hid (show CM.okLen e = true by
    rw [HL.out, decide_eq_true hle]
    have e1 : (decide (e.kind = 1) && decide (e.recs.length = 0)) = false := by
      have := HNZ.out
      by_cases h : e.kind = 1 <;> by_cases hz : e.recs.length = 0 <;> simp [h, hz] <;> exact absurd ⟨h, hz⟩ this
    have e3 : (decide (e.kind = 3) && !decide (e.type = 0)) = false := by
      have := HN3.out
      by_cases h : e.kind = 3 <;> by_cases hz : e.type = 0 <;> simp [h, hz] <;> exact absurd ⟨h, hz⟩ this
    rw [e1, e3]; rfl)
  have HSM := Lib.hid (HSE.out (by first | rfl | trivial))
  clear HL HB1 HBAD HHD0 HCK HSE
  rcases hor with h2 | ⟨h2, h3⟩
  all_goals
    go_wp2_with fail
    clear hle
    go_loopw [4] (fun u wr => ∃ i : Nat, u = .int .i64 (i : Int) ∧ i ≤ e.recs.length ∧ (∀ j (hj : j < e.recs.length), j < i → CM.okRec e e.recs[j] = true) ∧ Touch [] w wr ∧ Blk wr w.heap.size 25 (entV e (.slice a e.recs.length cap))) (fun u _ => e.recs.length - (intOf u).toNat)
    case atStart => exact ⟨0, rfl, Nat.zero_le _, fun j _ h => absurd h (Nat.not_lt_zero _), HT1.out, HB.out⟩
    case round =>
      as_aux_lemma =>
      obtain ⟨i, rfl, hi2, hall, hT, hBo⟩ := hrel
      obtain ⟨wo, rfl⟩ : ∃ wo, wo = wr := ⟨_, rfl⟩
      have HA := Lib.hid hall
      have HTT := Lib.hid hT
      have HBo := Lib.hid hBo
      have y4 : wo.cell? ⟨w.heap.size, 4, none⟩ = some (.slice a e.recs.length cap) := hBo.cell 4
      clear hall hT hBo c0 c2 c4 c5 c6 c7
      by_cases hlt : i < e.recs.length
      case neg =>
        have H1 := Lib.hid (HG.out HHD.out HLN.out (fun r hr => by
          obtain ⟨j, hj, rfl⟩ := List.mem_iff_getElem.1 hr
          exact HA.out j hj (by omega)))
        have hge : (e.recs.length : Int) ≤ (i : Int) := by omega
        clear hlt hi2
        go_wp2_with fail
        go_ret
        exact ⟨by rw [H1.out]; rfl, HTT.out⟩
      case pos =>
      have hltI : (i : Int) < (e.recs.length : Int) := by omega
      have HWR := Lib.hid (show wrap64 ((i : Int) + 1) = (i : Int) + 1 from IntWalk.wrap64_in _ (by have := HI.out.2.2; omega))
      have HQ := Lib.hid (show e.recs.length - (i + 1) < e.recs.length - i by omega)
      obtain ⟨g, off, hag, hgl, hc⟩ := HC.out (by omega)
      have HLT := Lib.hid hlt
      obtain ⟨r, hr⟩ : ∃ r, r = e.recs[i] := ⟨_, rfl⟩
      have hcc : ∀ j, j < 5 → w.cell? ⟨g, off + (i * 5 + j), none⟩ = (recV r)[j]? := by rw [hr]; exact hc i hlt
      have hmem : r ∈ e.recs := by rw [hr]; exact List.getElem_mem _
      have hfit := HF.out.2 r hmem
      have HB3i := Lib.hid (HB3.out r hmem)
      have HAi := Lib.hid (show CM.okRec e r = true → ∀ j (hj : j < e.recs.length), j < i + 1 → CM.okRec e e.recs[j] = true from fun h j hj hji => by
        by_cases e1 : j = i
        · subst e1; rw [hr] at h; exact h
        · exact HA.out j hj (by omega))
      subst hag
      clear hr hmem hlt hi2 hc
      obtain ⟨n, t, c, ttl, d⟩ := r
      have d0 : wo.cell? ⟨g, off + i * 5, none⟩ = some (.string n) := touch_cell HTT.out (hcc 0 (by decide)) (by simp)
      have d1 : wo.cell? ⟨g, off + i * 5 + 1, none⟩ = some (.int .u16 t) := touch_cell HTT.out (hcc 1 (by decide)) (by simp)
      have d2 : wo.cell? ⟨g, off + i * 5 + 2, none⟩ = some (.int .u16 c) := touch_cell HTT.out (hcc 2 (by decide)) (by simp)
      have d3 : wo.cell? ⟨g, off + i * 5 + 3, none⟩ = some (.int .u32 ttl) := touch_cell HTT.out (hcc 3 (by decide)) (by simp)
      have d4 : wo.cell? ⟨g, off + i * 5 + 4, none⟩ = some (.string d) := touch_cell HTT.out (hcc 4 (by decide)) (by simp)
      have k3 : (wo.alloc (.cells #[.string n, .int .u16 t, .int .u16 c, .int .u32 ttl, .string d] 68)).cell? ⟨w.heap.size, 1, none⟩ = some (.string e.name) := (HBo.out.alloc _).cell 1
      have k4 : wo.cell? ⟨w.heap.size, 1, none⟩ = some (.string e.name) := HBo.out.cell 1
      have HFT := Lib.hid hfit
      have HSA := Lib.hid (fun W => rsame_any W n e.name hfit.1 HF.out.1)
      have hsm := HSM.out (bs n)
      obtain ⟨sr, hsr⟩ : ∃ b, b = NM.sameR (bs n) (bs e.name) := ⟨_, rfl⟩
      rw [← hsr] at HSA hsm
      have HSR := Lib.hid hsm
      clear hcc hfit hsr hsm
      go_wp2_with fail
      refine (HSA.out _).mono ?_
      rintro e1 w5 ⟨rfl, T5⟩
      have HT5 := Lib.hid ((HTT.out.alloc (.cells #[.string n, .int .u16 t, .int .u16 c, .int .u32 ttl, .string d] 68)).trans T5 (by simp))
      have HB5 := Lib.hid (T5.blk (HBo.out.alloc (.cells #[.string n, .int .u16 t, .int .u16 c, .int .u32 ttl, .string d] 68)) (by simp))
      have bR := T5.blk (Blk.new wo 68 #[.string n, .int .u16 t, .int .u16 c, .int .u32 ttl, .string d]) (by simp)
      have HBR := Lib.hid bR
      have m0 : w5.cell? ⟨wo.heap.size, 0, none⟩ = some (.string n) := bR.cell 0
      have m1 : w5.cell? ⟨wo.heap.size, 1, none⟩ = some (.int .u16 t) := bR.cell 1
      have m2 : w5.cell? ⟨wo.heap.size, 2, none⟩ = some (.int .u16 c) := bR.cell 2
      have m3 : w5.cell? ⟨wo.heap.size, 3, none⟩ = some (.int .u32 ttl) := bR.cell 3
      have m4 : w5.cell? ⟨wo.heap.size, 4, none⟩ = some (.string d) := bR.cell 4
      clear T5 bR d0 d1 d2 d3 d4 k3 k4 y4
      have HRC := Lib.hid (fun W => rrec_any W ⟨n, t, c, ttl, d⟩ HFT.out)
      have HOK := Lib.hid (show CM.okRec e ⟨n, t, c, ttl, d⟩ = (decide (c = e.cls) && (if e.kind = 1 then decide (t = e.type) && sr else decide (t = 6)) && decide (NM.rcheck (bs n) t (bs d) = 0)) from by
        unfold CM.okRec
        simp only [HSR.out])
      obtain ⟨rk, hrk⟩ : ∃ k, k = NM.rcheck (bs n) t (bs d) := ⟨_, rfl⟩
      have HRC2 := Lib.hid (show ∀ W, Calls Try.prog 39 #[.agg #[.string n, .int .u16 t, .int .u16 c, .int .u32 ttl, .string d]] W fun e1 w' => e1 = .returned (.int .i64 rk) ∧ Touch [] W w' from by rw [hrk]; exact HRC.out)
      rw [← hrk] at HOK
      clear hrk HRC
      go_wp2_with fail
      refine (HRC2.out _).mono ?_
      rintro e1 w6 ⟨rfl, T6⟩
      have HT6 := Lib.hid (HT5.out.trans T6 (by simp))
      have hb6 := T6.blk HB5.out (by simp)
      have br6 := T6.blk HBR.out (by simp)
      have HB6 := Lib.hid hb6
      have x0 : w6.cell? ⟨w.heap.size, 0, none⟩ = some (.int .i64 e.kind) := hb6.cell 0
      have x2 : w6.cell? ⟨w.heap.size, 2, none⟩ = some (.int .u16 e.type) := hb6.cell 2
      have x3 : w6.cell? ⟨w.heap.size, 3, none⟩ = some (.int .u16 e.cls) := hb6.cell 3
      have x5 : w6.cell? ⟨wo.heap.size, 1, none⟩ = some (.int .u16 t) := br6.cell 1
      have x6 : w6.cell? ⟨wo.heap.size, 2, none⟩ = some (.int .u16 c) := br6.cell 2
      clear hb6 br6 T6 m0 m1 m2 m3 m4
      by_cases hrk : rk = 0
      case neg =>
        have H1 := Lib.hid (HB3i.out (by rw [HOK.out, decide_eq_false hrk]; simp))
        go_wp2_with fail
        go_ret
        exact ⟨by rw [H1.out]; rfl, HT6.out⟩
      case pos =>
      subst hrk
      by_cases hcl : c = e.cls
      case neg =>
        have H1 := Lib.hid (HB3i.out (by rw [HOK.out, decide_eq_false hcl]; simp))
        have hc2 : (c == e.cls) = false := by simpa using hcl
        have hc3 : (c != e.cls) = true := by simpa using hcl
        clear hcl
        go_wp2_with fail
        go_ret
        exact ⟨by rw [H1.out]; rfl, HT6.out⟩
      case pos =>
      have HCL := Lib.hid hcl
      have hc2 : (c == e.cls) = true := by simpa using hcl
      have hc3 : (c != e.cls) = false := by simpa using hcl
      clear hcl
      by_cases hk1 : e.kind = 1
      case pos =>
        have HK1 := Lib.hid hk1
        have z1 : (e.kind == 1) = true := by simpa using hk1
        have z2 : (e.kind != 1) = false := by simpa using hk1
        have HOK2 := Lib.hid (show CM.okRec e ⟨n, t, c, ttl, d⟩ = (decide (t = e.type) && sr) from by
          rw [HOK.out, decide_eq_true HCL.out, if_pos hk1]; simp)
        clear hk1
        cases sr with
        | false =>
          have H1 := Lib.hid (HB3i.out (by rw [HOK2.out]; simp))
          go_wp2_with fail
          go_ret
          exact ⟨by rw [H1.out]; rfl, HT6.out⟩
        | true =>
          by_cases ht : t = e.type
          · have z3 : (t != e.type) = false := by simpa using ht
            have z4 : (t == e.type) = true := by simpa using ht
            have HAA := Lib.hid (HAi.out (by rw [HOK2.out, decide_eq_true ht]; rfl))
            have hwr := HWR.out
            clear ht
            go_wp2_with fail
            go_roundw
            case rel => exact ⟨i + 1, by rw [hwr]; rfl, HLT.out, HAA.out, HT6.out, HB6.out⟩
            case measure => exact lt_sub_of (by rw [hwr]; rfl) rfl HQ.out
          · have z3 : (t != e.type) = true := by simpa using ht
            have z4 : (t == e.type) = false := by simpa using ht
            have H1 := Lib.hid (HB3i.out (by rw [HOK2.out, decide_eq_false ht]; rfl))
            clear ht
            go_wp2_with fail
            go_ret
            exact ⟨by rw [H1.out]; rfl, HT6.out⟩
      case neg =>
        have z1 : (e.kind == 1) = false := by simpa using hk1
        have z2 : (e.kind != 1) = true := by simpa using hk1
        have HOK2 := Lib.hid (show CM.okRec e ⟨n, t, c, ttl, d⟩ = decide (t = 6) from by
          rw [HOK.out, decide_eq_true HCL.out, if_neg hk1]; simp)
        clear hk1
        by_cases ht : t = 6
        · have z3 : (t != 6) = false := by simpa using ht
          have z4 : (t == 6) = true := by simpa using ht
          have HAA := Lib.hid (HAi.out (by rw [HOK2.out, decide_eq_true ht]))
          have hwr := HWR.out
          clear ht
          go_wp2_with fail
          go_roundw
          case rel => exact ⟨i + 1, by rw [hwr]; rfl, HLT.out, HAA.out, HT6.out, HB6.out⟩
          case measure => exact lt_sub_of (by rw [hwr]; rfl) rfl HQ.out
        · have z3 : (t != 6) = true := by simpa using ht
          have z4 : (t == 6) = false := by simpa using ht
          have H1 := Lib.hid (HB3i.out (by rw [HOK2.out, decide_eq_false ht]))
          clear ht
          go_wp2_with fail
          go_ret
          exact ⟨by rw [H1.out]; rfl, HT6.out⟩
end Go.Proofs.Ytibbfihnhlgkeaa

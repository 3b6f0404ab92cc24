import Derived.Test.YtibbfihnhlgkeaaGreatCacheC
import Derived.Test.YtibbfihnhlgkeaaGreatCacheA6
import Derived.Test.YtibbfihnhlgkeaaGreatCacheL
import Derived.Test.YtibbfihnhlgkeaaGreatPlaysA
import Derived.Test.YtibbfihnhlgkeaaGreatCacheO
import Derived.Maps.AppendAt
import Derived.Deep.RegionWith
import Derived.Deep.DeepCutAuto
import Derived.Handy
import Derived.BigQuiet
import Derived.Deep.QuietTactic
import Derived.StillTailTactics
import Derived.Deep.RegionLaw
import Derived.Deep.AppendLies
import Derived.Test.YtibbfihnhlgkeaaGreatCacheM3
import Derived.Test.YtibbfihnhlgkeaaGreatCacheA4

/- The document's cache (fingerpostref16): Check. -/
namespace Go.Proofs.YtibbfihnhlgkeaaGreat
open Go.RowKit Go.Maps Go.Shelf
open NM (Bs bs ofBs)

set_option maxRecDepth 10000 in
set_option maxHeartbeats 4000000 in
theorem rccheck_any (w : World) (e : CM.E) (rv : Value) (hf : EFits e) (hrec : RecsAt w rv e.recs) : Calls Tryz.prog 44 #[.agg (entV e rv)] w fun e1 w' => e1 = .returned (.int .i64 (CM.check e)) ∧ Touch [] w w' := by
  obtain ⟨q, hq⟩ : ∃ q, q = CM.check e := ⟨_, rfl⟩
  have HB1 := Lib.hid (@check_bad1 e)
  have HB2 := Lib.hid (@check_bad2 e)
  have HB3 := Lib.hid (@check_bad3 e)
  have HG := Lib.hid (@check_good e)
  rw [← hq] at HB1 HB2 HB3 HG ⊢
  have HF := Lib.hid hf
  have HBk := Lib.hid (Blk.new w 31 (entV e rv))
  have HCK := Lib.hid (fun W => rcheck_any W e.name hf.1)
  obtain ⟨k, hk⟩ : ∃ k, k = NM.check (bs e.name) := ⟨_, rfl⟩
  rw [← hk] at HCK
  have hhead : CM.okHead e = decide ((1 ≤ e.kind ∧ e.kind ≤ 3) ∧ k = 0 ∧ (0 ≤ e.til ∧ e.til ≤ 1125899906842624) ∧ (1 ≤ e.rank ∧ e.rank ≤ 4) ∧ (0 ≤ e.epoch ∧ e.epoch ≤ 1099511627776)) := by
    unfold CM.okHead; rw [hk]
  have HBAD := Lib.hid (fun h : ¬ ((1 ≤ e.kind ∧ e.kind ≤ 3) ∧ k = 0 ∧ (0 ≤ e.til ∧ e.til ≤ 1125899906842624) ∧ (1 ≤ e.rank ∧ e.rank ≤ 4) ∧ (0 ≤ e.epoch ∧ e.epoch ≤ 1099511627776)) => HB1.out (by rw [hhead]; exact decide_eq_false h))
  have HHD0 := Lib.hid (fun h : ((1 ≤ e.kind ∧ e.kind ≤ 3) ∧ k = 0 ∧ (0 ≤ e.til ∧ e.til ≤ 1125899906842624) ∧ (1 ≤ e.rank ∧ e.rank ≤ 4) ∧ (0 ≤ e.epoch ∧ e.epoch ≤ 1099511627776)) => show CM.okHead e = true from by rw [hhead]; exact decide_eq_true h)
  have HSE := Lib.hid (fun (h : k = 0) (x : Bs) => NM.same_eq x (b := bs e.name) (by rw [← hk]; exact h))
  obtain ⟨a, cap, rfl, hlc, hcm, hcells⟩ := hrec
  have hlenI : (e.recs.length : Int) ≤ 9223372036854775807 := by unfold maxLen at hcm; omega
  have HC := Lib.hid hcells
  have HI := Lib.hid (And.intro hlc (And.intro hcm hlenI))
  clear hhead hk hcells hlc hcm hlenI hq hf
  show Calls Tryz.prog 44 #[.agg #[.int .i64 e.kind, .string e.name, .int .u16 e.type, .int .u16 e.cls, .slice a e.recs.length cap, .int .i64 e.til, .int .i64 e.rank, .int .i64 e.epoch, .int .i64 e.src]] w fun e1 w' => e1 = .returned (.int .i64 q) ∧ Touch [] w w'
  have HT0 := Lib.hid ((Touch.refl [] w).alloc (.cells (entV e (.slice a e.recs.length cap)) 31))
  go_enter Tryz.func44, Tryz.ntmps44
  by_cases h1 : 1 ≤ e.kind
  case neg =>
    have H1 := Lib.hid (HBAD.out (fun h => h1 h.1.1))
    go_wp2_with fail
    go_ret
    exact ⟨by rw [H1.out]; rfl, HT0.out⟩
  case pos =>
  by_cases h2 : e.kind ≤ 3
  case neg =>
    have H1 := Lib.hid (HBAD.out (fun h => h2 h.1.2))
    go_wp2_with fail
    go_ret
    exact ⟨by rw [H1.out]; rfl, HT0.out⟩
  case pos =>
  go_wp2_with fail
  refine (HCK.out _).mono ?_
  rintro e1 w1 ⟨rfl, T1⟩
  have hB1 := T1.blk HBk.out (by simp)
  have HB := Lib.hid hB1
  have HT1 := Lib.hid (HT0.out.trans T1 (by simp))
  have c0 : w1.cell? ⟨w.heap.size, 0, none⟩ = some (.int .i64 e.kind) := hB1.cell 0
  have c2 : w1.cell? ⟨w.heap.size, 2, none⟩ = some (.int .u16 e.type) := hB1.cell 2
  have c4 : w1.cell? ⟨w.heap.size, 4, none⟩ = some (.slice a e.recs.length cap) := hB1.cell 4
  have c5 : w1.cell? ⟨w.heap.size, 5, none⟩ = some (.int .i64 e.til) := hB1.cell 5
  have c6 : w1.cell? ⟨w.heap.size, 6, none⟩ = some (.int .i64 e.rank) := hB1.cell 6
  have c7 : w1.cell? ⟨w.heap.size, 7, none⟩ = some (.int .i64 e.epoch) := hB1.cell 7
  clear hB1 T1
  by_cases hk : k = 0
  case neg =>
    have H1 := Lib.hid (HBAD.out (fun h => hk h.2.1))
    go_wp2_with fail
    go_ret
    exact ⟨by rw [H1.out]; rfl, HT1.out⟩
  case pos =>
  subst hk
  by_cases t0 : 0 ≤ e.til
  case neg =>
    have H1 := Lib.hid (HBAD.out (fun h => t0 h.2.2.1.1))
    go_wp2_with fail
    go_ret
    exact ⟨by rw [H1.out]; rfl, HT1.out⟩
  case pos =>
  by_cases t1 : e.til ≤ 1125899906842624
  case neg =>
    have H1 := Lib.hid (HBAD.out (fun h => t1 h.2.2.1.2))
    go_wp2_with fail
    go_ret
    exact ⟨by rw [H1.out]; rfl, HT1.out⟩
  case pos =>
  by_cases t2 : 1 ≤ e.rank
  case neg =>
    have H1 := Lib.hid (HBAD.out (fun h => t2 h.2.2.2.1.1))
    go_wp2_with fail
    go_ret
    exact ⟨by rw [H1.out]; rfl, HT1.out⟩
  case pos =>
  by_cases t3 : e.rank ≤ 4
  case neg =>
    have H1 := Lib.hid (HBAD.out (fun h => t3 h.2.2.2.1.2))
    go_wp2_with fail
    go_ret
    exact ⟨by rw [H1.out]; rfl, HT1.out⟩
  case pos =>
  by_cases t4 : 0 ≤ e.epoch
  case neg =>
    have H1 := Lib.hid (HBAD.out (fun h => t4 h.2.2.2.2.1))
    go_wp2_with fail
    go_ret
    exact ⟨by rw [H1.out]; rfl, HT1.out⟩
  case pos =>
  by_cases t5 : e.epoch ≤ 1099511627776
  case neg =>
    have H1 := Lib.hid (HBAD.out (fun h => t5 h.2.2.2.2.2))
    go_wp2_with fail
    go_ret
    exact ⟨by rw [H1.out]; rfl, HT1.out⟩
  case pos =>
  have HHD := Lib.hid (HHD0.out ⟨⟨h1, h2⟩, rfl, ⟨t0, t1⟩, ⟨t2, t3⟩, ⟨t4, t5⟩⟩)
  obtain ⟨hi, hhi⟩ : ∃ hi : Int, (e.kind = 1 ∧ hi = 64) ∨ (e.kind ≠ 1 ∧ hi = 1) := by
    by_cases h : e.kind = 1
    · exact ⟨64, .inl ⟨h, rfl⟩⟩
    · exact ⟨1, .inr ⟨h, rfl⟩⟩
  have HHI := Lib.hid hhi
  have hlen : CM.okLen e = (!(decide (e.kind = 1) && decide (e.recs.length = 0)) && !(decide (e.kind = 3) && !decide (e.type = 0)) && decide ((e.recs.length : Int) ≤ hi)) := by
    unfold CM.okLen
    rcases hhi with ⟨h, rfl⟩ | ⟨h, rfl⟩
    · rw [if_pos h, if_pos h]
      have h3 : ¬ (e.kind = 3) := by omega
      by_cases hz : e.recs.length = 0 <;> by_cases hy : e.recs.length ≤ 64 <;> simp [h, hz, hy] <;> omega
    · rw [if_neg h, if_neg h]
      by_cases h3 : e.kind = 3 <;> by_cases h4 : e.type = 0 <;> by_cases hy : e.recs.length ≤ 1 <;> simp [h, h3, h4, hy] <;> omega
  have HL := Lib.hid hlen
  clear hhi hlen
  go_upto_if 53 with (fail)
  clear t0 t1 t2 t3 t4 t5 h1 h2
  go_cut [3] from 51 to 57 (fun s3 wx => s3 = .int .i64 hi ∧ wx = w1 ∧ ¬ (e.kind = 1 ∧ e.recs.length = 0))
  case first =>
    rcases HHI.out with ⟨h, rfl⟩ | ⟨h, rfl⟩
    · have h2 : (e.kind == 1) = true := by simpa using h
      by_cases hz : e.recs.length = 0
      · have H1 := Lib.hid (HB2.out (by rw [HL.out, decide_eq_true h, decide_eq_true hz]; rfl))
        have hz2 : ((e.recs.length : Int) == 0) = true := by simp [hz]
        clear h hz
        go_wp2_with fail
        go_ret
        exact ⟨by rw [H1.out]; rfl, HT1.out⟩
      · have hz2 : ((e.recs.length : Int) == 0) = false := by simp; exact fun e2 => hz (by rw [e2]; rfl)
        have HZ := Lib.hid hz
        clear h hz
        go_wp2_with fail
        go_meet
        exact ⟨rfl, rfl, fun h => HZ.out h.2⟩
    · have h2 : (e.kind == 1) = false := by simpa using h
      have HK := Lib.hid h
      clear h
      go_wp2_with fail
      go_meet
      exact ⟨rfl, rfl, fun h => HK.out h.1⟩
  case rest =>
  obtain ⟨rfl, hwx, hnz⟩ := hcut
  obtain rfl := hwx.symm
  have HNZ := Lib.hid hnz
  clear hnz
  by_cases hbad : e.kind = 3 ∧ e.type ≠ 0
  case pos =>
    have H1 := Lib.hid (HB2.out (by rw [HL.out, decide_eq_true hbad.1, decide_eq_false hbad.2]; simp))
    have h2 : (e.kind == 3) = true := by simpa using hbad.1
    have h3 : (e.type != 0) = true := by simpa using hbad.2
    clear hbad
    go_wp2_with fail
    go_ret
    exact ⟨by rw [H1.out]; rfl, HT1.out⟩
  case neg =>
  have hor : ((e.kind == 3) = false) ∨ ((e.kind == 3) = true ∧ (e.type != 0) = false) := by
    by_cases h3 : e.kind = 3
    · have h4 : e.type = 0 := Classical.byContradiction fun h => hbad ⟨h3, h⟩
      exact .inr ⟨by simpa using h3, by simp [h4]⟩
    · exact .inl (by simpa using h3)
  have HN3 := Lib.hid hbad
  clear hbad
  by_cases hle : (e.recs.length : Int) ≤ hi
  case neg =>
    have H1 := Lib.hid (HB2.out (by rw [HL.out, decide_eq_false hle]; simp))
    have hgt : hi < (e.recs.length : Int) := by omega
    clear hle
    rcases hor with h2 | ⟨h2, h3⟩
    all_goals
      go_wp2_with fail
      go_ret
      exact ⟨by rw [H1.out]; rfl, HT1.out⟩
  case pos =>
  have HLN := Lib.hid (show CM.okLen e = true by
    rw [HL.out, decide_eq_true hle]
    have e1 : (decide (e.kind = 1) && decide (e.recs.length = 0)) = false := by
      have := HNZ.out
      by_cases h : e.kind = 1 <;> by_cases hz : e.recs.length = 0 <;> simp [h, hz] <;> exact absurd ⟨h, hz⟩ this
    have e3 : (decide (e.kind = 3) && !decide (e.type = 0)) = false := by
      have := HN3.out
      by_cases h : e.kind = 3 <;> by_cases hz : e.type = 0 <;> simp [h, hz] <;> exact absurd ⟨h, hz⟩ this
    rw [e1, e3]; rfl)
  have HSM := Lib.hid (HSE.out (by first | rfl | trivial))
  clear HL HB1 HBAD HHD0 HCK HSE
  rcases hor with h2 | ⟨h2, h3⟩
  all_goals
    go_wp2_with fail
    clear hle
    go_loopw [4] (fun u wr => ∃ i : Nat, u = .int .i64 (i : Int) ∧ i ≤ e.recs.length ∧ (∀ j (hj : j < e.recs.length), j < i → CM.okRec e e.recs[j] = true) ∧ Touch [] w wr ∧ Blk wr w.heap.size 31 (entV e (.slice a e.recs.length cap))) (fun u _ => e.recs.length - (intOf u).toNat)
    case atStart => exact ⟨0, rfl, Nat.zero_le _, fun j _ h => absurd h (Nat.not_lt_zero _), HT1.out, HB.out⟩
    case round =>
      as_aux_lemma =>
      obtain ⟨i, rfl, hi2, hall, hT, hBo⟩ := hrel
      obtain ⟨wo, rfl⟩ : ∃ wo, wo = wr := ⟨_, rfl⟩
      have HA := Lib.hid hall
      have HTT := Lib.hid hT
      have HBo := Lib.hid hBo
      have y4 : wo.cell? ⟨w.heap.size, 4, none⟩ = some (.slice a e.recs.length cap) := hBo.cell 4
      clear hall hT hBo c0 c2 c4 c5 c6 c7
      by_cases hlt : i < e.recs.length
      case neg =>
        have H1 := Lib.hid (HG.out HHD.out HLN.out (fun r hr => by
          obtain ⟨j, hj, rfl⟩ := List.mem_iff_getElem.1 hr
          exact HA.out j hj (by omega)))
        have hge : (e.recs.length : Int) ≤ (i : Int) := by omega
        clear hlt hi2
        go_wp2_with fail
        go_ret
        exact ⟨by rw [H1.out]; rfl, HTT.out⟩
      case pos =>
      have hltI : (i : Int) < (e.recs.length : Int) := by omega
      have HWR := Lib.hid (show wrap64 ((i : Int) + 1) = (i : Int) + 1 from IntWalk.wrap64_in _ (by have := HI.out.2.2; omega))
      have HQ := Lib.hid (show e.recs.length - (i + 1) < e.recs.length - i by omega)
      obtain ⟨g, off, hag, hgl, hc⟩ := HC.out (by omega)
      have HLT := Lib.hid hlt
      obtain ⟨r, hr⟩ : ∃ r, r = e.recs[i] := ⟨_, rfl⟩
      have hcc : ∀ j, j < 5 → w.cell? ⟨g, off + (i * 5 + j), none⟩ = (recV r)[j]? := by rw [hr]; exact hc i hlt
      have hmem : r ∈ e.recs := by rw [hr]; exact List.getElem_mem _
      have hfit := HF.out.2 r hmem
      have HB3i := Lib.hid (HB3.out r hmem)
      have HAi := Lib.hid (show CM.okRec e r = true → ∀ j (hj : j < e.recs.length), j < i + 1 → CM.okRec e e.recs[j] = true from fun h j hj hji => by
        by_cases e1 : j = i
        · subst e1; rw [hr] at h; exact h
        · exact HA.out j hj (by omega))
      subst hag
      clear hr hmem hlt hi2 hc
      obtain ⟨n, t, c, ttl, d⟩ := r
      have d0 : wo.cell? ⟨g, off + i * 5, none⟩ = some (.string n) := touch_cell HTT.out (hcc 0 (by decide)) (by simp)
      have d1 : wo.cell? ⟨g, off + i * 5 + 1, none⟩ = some (.int .u16 t) := touch_cell HTT.out (hcc 1 (by decide)) (by simp)
      have d2 : wo.cell? ⟨g, off + i * 5 + 2, none⟩ = some (.int .u16 c) := touch_cell HTT.out (hcc 2 (by decide)) (by simp)
      have d3 : wo.cell? ⟨g, off + i * 5 + 3, none⟩ = some (.int .u32 ttl) := touch_cell HTT.out (hcc 3 (by decide)) (by simp)
      have d4 : wo.cell? ⟨g, off + i * 5 + 4, none⟩ = some (.string d) := touch_cell HTT.out (hcc 4 (by decide)) (by simp)
      have k3 : (wo.alloc (.cells #[.string n, .int .u16 t, .int .u16 c, .int .u32 ttl, .string d] 60)).cell? ⟨w.heap.size, 1, none⟩ = some (.string e.name) := (HBo.out.alloc _).cell 1
      have k4 : wo.cell? ⟨w.heap.size, 1, none⟩ = some (.string e.name) := HBo.out.cell 1
      have HFT := Lib.hid hfit
      have HSA := Lib.hid (fun W => rsame_any W n e.name hfit.1 HF.out.1)
      have hsm := HSM.out (bs n)
      obtain ⟨sr, hsr⟩ : ∃ b, b = NM.sameR (bs n) (bs e.name) := ⟨_, rfl⟩
      rw [← hsr] at HSA hsm
      have HSR := Lib.hid hsm
      clear hcc hfit hsr hsm
      go_wp2_with fail
      refine (HSA.out _).mono ?_
      rintro e1 w5 ⟨rfl, T5⟩
      have HT5 := Lib.hid ((HTT.out.alloc (.cells #[.string n, .int .u16 t, .int .u16 c, .int .u32 ttl, .string d] 60)).trans T5 (by simp))
      have HB5 := Lib.hid (T5.blk (HBo.out.alloc (.cells #[.string n, .int .u16 t, .int .u16 c, .int .u32 ttl, .string d] 60)) (by simp))
      have bR := T5.blk (Blk.new wo 60 #[.string n, .int .u16 t, .int .u16 c, .int .u32 ttl, .string d]) (by simp)
      have HBR := Lib.hid bR
      have m0 : w5.cell? ⟨wo.heap.size, 0, none⟩ = some (.string n) := bR.cell 0
      have m1 : w5.cell? ⟨wo.heap.size, 1, none⟩ = some (.int .u16 t) := bR.cell 1
      have m2 : w5.cell? ⟨wo.heap.size, 2, none⟩ = some (.int .u16 c) := bR.cell 2
      have m3 : w5.cell? ⟨wo.heap.size, 3, none⟩ = some (.int .u32 ttl) := bR.cell 3
      have m4 : w5.cell? ⟨wo.heap.size, 4, none⟩ = some (.string d) := bR.cell 4
      clear T5 bR d0 d1 d2 d3 d4 k3 k4 y4
      have HRC := Lib.hid (fun W => rrec_any W ⟨n, t, c, ttl, d⟩ HFT.out)
      have HOK := Lib.hid (show CM.okRec e ⟨n, t, c, ttl, d⟩ = (decide (c = e.cls) && (if e.kind = 1 then decide (t = e.type) && sr else decide (t = 6)) && decide (NM.rcheck (bs n) t (bs d) = 0)) from by
        unfold CM.okRec
        simp only [HSR.out])
      obtain ⟨rk, hrk⟩ : ∃ k, k = NM.rcheck (bs n) t (bs d) := ⟨_, rfl⟩
      have HRC2 := Lib.hid (show ∀ W, Calls Tryz.prog 69 #[.agg #[.string n, .int .u16 t, .int .u16 c, .int .u32 ttl, .string d]] W fun e1 w' => e1 = .returned (.int .i64 rk) ∧ Touch [] W w' from by rw [hrk]; exact HRC.out)
      rw [← hrk] at HOK
      clear hrk HRC
      go_wp2_with fail
      refine (HRC2.out _).mono ?_
      rintro e1 w6 ⟨rfl, T6⟩
      have HT6 := Lib.hid (HT5.out.trans T6 (by simp))
      have hb6 := T6.blk HB5.out (by simp)
      have br6 := T6.blk HBR.out (by simp)
      have HB6 := Lib.hid hb6
      have x0 : w6.cell? ⟨w.heap.size, 0, none⟩ = some (.int .i64 e.kind) := hb6.cell 0
      have x2 : w6.cell? ⟨w.heap.size, 2, none⟩ = some (.int .u16 e.type) := hb6.cell 2
      have x3 : w6.cell? ⟨w.heap.size, 3, none⟩ = some (.int .u16 e.cls) := hb6.cell 3
      have x5 : w6.cell? ⟨wo.heap.size, 1, none⟩ = some (.int .u16 t) := br6.cell 1
      have x6 : w6.cell? ⟨wo.heap.size, 2, none⟩ = some (.int .u16 c) := br6.cell 2
      clear hb6 br6 T6 m0 m1 m2 m3 m4
      by_cases hrk : rk = 0
      case neg =>
        have H1 := Lib.hid (HB3i.out (by rw [HOK.out, decide_eq_false hrk]; simp))
        go_wp2_with fail
        go_ret
        exact ⟨by rw [H1.out]; rfl, HT6.out⟩
      case pos =>
      subst hrk
      by_cases hcl : c = e.cls
      case neg =>
        have H1 := Lib.hid (HB3i.out (by rw [HOK.out, decide_eq_false hcl]; simp))
        have hc2 : (c == e.cls) = false := by simpa using hcl
        have hc3 : (c != e.cls) = true := by simpa using hcl
        clear hcl
        go_wp2_with fail
        go_ret
        exact ⟨by rw [H1.out]; rfl, HT6.out⟩
      case pos =>
      have HCL := Lib.hid hcl
      have hc2 : (c == e.cls) = true := by simpa using hcl
      have hc3 : (c != e.cls) = false := by simpa using hcl
      clear hcl
      by_cases hk1 : e.kind = 1
      case pos =>
        have HK1 := Lib.hid hk1
        have z1 : (e.kind == 1) = true := by simpa using hk1
        have z2 : (e.kind != 1) = false := by simpa using hk1
        have HOK2 := Lib.hid (show CM.okRec e ⟨n, t, c, ttl, d⟩ = (decide (t = e.type) && sr) from by
          rw [HOK.out, decide_eq_true HCL.out, if_pos hk1]; simp)
        clear hk1
        cases sr with
        | false =>
          have H1 := Lib.hid (HB3i.out (by rw [HOK2.out]; simp))
          go_wp2_with fail
          go_ret
          exact ⟨by rw [H1.out]; rfl, HT6.out⟩
        | true =>
          by_cases ht : t = e.type
          · have z3 : (t != e.type) = false := by simpa using ht
            have z4 : (t == e.type) = true := by simpa using ht
            have HAA := Lib.hid (HAi.out (by rw [HOK2.out, decide_eq_true ht]; rfl))
            have hwr := HWR.out
            clear ht
            go_wp2_with fail
            go_roundw
            case rel => exact ⟨i + 1, by rw [hwr]; rfl, HLT.out, HAA.out, HT6.out, HB6.out⟩
            case measure => exact lt_sub_of (by rw [hwr]; rfl) rfl HQ.out
          · have z3 : (t != e.type) = true := by simpa using ht
            have z4 : (t == e.type) = false := by simpa using ht
            have H1 := Lib.hid (HB3i.out (by rw [HOK2.out, decide_eq_false ht]; rfl))
            clear ht
            go_wp2_with fail
            go_ret
            exact ⟨by rw [H1.out]; rfl, HT6.out⟩
      case neg =>
        have z1 : (e.kind == 1) = false := by simpa using hk1
        have z2 : (e.kind != 1) = true := by simpa using hk1
        have HOK2 := Lib.hid (show CM.okRec e ⟨n, t, c, ttl, d⟩ = decide (t = 6) from by
          rw [HOK.out, decide_eq_true HCL.out, if_neg hk1]; simp)
        clear hk1
        by_cases ht : t = 6
        · have z3 : (t != 6) = false := by simpa using ht
          have z4 : (t == 6) = true := by simpa using ht
          have HAA := Lib.hid (HAi.out (by rw [HOK2.out, decide_eq_true ht]))
          have hwr := HWR.out
          clear ht
          go_wp2_with fail
          go_roundw
          case rel => exact ⟨i + 1, by rw [hwr]; rfl, HLT.out, HAA.out, HT6.out, HB6.out⟩
          case measure => exact lt_sub_of (by rw [hwr]; rfl) rfl HQ.out
        · have z3 : (t != 6) = true := by simpa using ht
          have z4 : (t == 6) = false := by simpa using ht
          have H1 := Lib.hid (HB3i.out (by rw [HOK2.out, decide_eq_false ht]))
          clear ht
          go_wp2_with fail
          go_ret
          exact ⟨by rw [H1.out]; rfl, HT6.out⟩
end Go.Proofs.YtibbfihnhlgkeaaGreat

/- The document's cache in memory: New, find, drop. -/
namespace Go.Proofs.YtibbfihnhlgkeaaGreat
open Go.RowKit Go.Maps Go.WideMaps
open NM (Bs bs ofBs)
open CM (It C)

/-- an entry as the document's cache takes it -/
def DOk (e : CM.E) : Prop := EFits e ∧ (0 ≤ e.type ∧ e.type ≤ 65535) ∧ (0 ≤ e.cls ∧ e.cls ≤ 65535)
structure DCa (w : World) (D : Nat) (v : Value) (b : Nat) (m : Int) (L : List CM.E) : Prop where
  blk : Blk w D 45 #[.int .i64 m, v]
  ge : b ≤ D
  row : ∃ P, P.map (·.1) = L ∧ w.ownsRow b 31 9 v P.length (flatP P) ∧ ∀ p ∈ P, w.ownsRow 0 60 5 p.2 p.1.recs.length (flat p.1.recs)
  ok : ∀ e ∈ L, DOk e
  len : L.length ≤ 1000000
def dft (D : Nat) (v : Value) : List Nat := D :: v.ownBlock.toList
section
variable {w w' : World} {D b : Nat} {v : Value} {m : Int} {L : List CM.E}
theorem DCa.touch {S : List Nat} (h : DCa w D v b m L) (T : Touch S w w') (h1 : D ∉ S) (h2 : ∀ k, v.ownBlock = some k → k ∉ S) (h3 : ∀ k cs, Blk w k 60 cs → k ∉ S) : DCa w' D v b m L := by
  obtain ⟨P, e, hr, hp⟩ := h.row
  refine ⟨T.blk h.blk h1, h.ge, ⟨P, e, trow_touch hr T h2, fun p hpm => trow_touch (hp p hpm) T (fun k hk => ?_)⟩, h.ok, h.len⟩
  rcases (hp p hpm).2 with ⟨e2, _⟩ | ⟨g, cap, cur, e2, _, hg, _⟩
  · rw [e2] at hk; cases hk
  · rw [e2] at hk
    injection hk with hk
    subst hk
    exact h3 _ cur hg
theorem DCa.quiet (h : DCa w D v b m L) (T : Touch [] w w') : DCa w' D v b m L := h.touch T (by simp) (by simp) (by simp)
theorem DCa.lt (h : DCa w D v b m L) : ∀ k ∈ dft D v, b ≤ k ∧ k < w.heap.size := by
  intro k hk
  obtain ⟨P, e, hr, hp⟩ := h.row
  unfold dft at hk
  rcases List.mem_cons.1 hk with rfl | hk
  · exact ⟨h.ge, h.blk.lt⟩
  · exact hr.lt k (by simpa using hk)
/-- what the document's cache is made of -/
theorem DCa.kind (h : DCa w D v b m L) : ∀ k ∈ dft D v, (∃ cs, Blk w k 45 cs) ∨ ∃ cs, Blk w k 31 cs := by
  intro k hk
  obtain ⟨P, e, hr, hp⟩ := h.row
  unfold dft at hk
  rcases List.mem_cons.1 hk with rfl | hk
  · exact .inl ⟨_, h.blk⟩
  · rw [Option.mem_toList] at hk
    rcases hr.2 with ⟨e2, _⟩ | ⟨g, cap, cur, e2, _, hg, _⟩
    · rw [e2] at hk; cases hk
    · rw [e2] at hk
      injection hk with hk
      subst hk
      exact .inr ⟨cur, hg⟩
/-- the code's cache turns nothing of it -/
theorem DCa.cstep {w0 : World} (h : DCa w D v b m L) (S : CStep w0 w w') : DCa w' D v b m L := by
  obtain ⟨S, T, _, hn⟩ := S
  refine h.touch T (hn _ _ _ h.blk (by decide) (by decide) (by decide)) (fun k hk => ?_) (fun k cs hb => hn _ _ _ hb (by decide) (by decide) (by decide))
  rcases h.kind k (by unfold dft; simp [hk]) with ⟨cs, hb⟩ | ⟨cs, hb⟩
  · exact hn _ _ _ hb (by decide) (by decide) (by decide)
  · exact hn _ _ _ hb (by decide) (by decide) (by decide)
/-- .. and the other way round -/
theorem OC.dstep {w0 : World} {B : Nat} {c : C} {S : List Nat} (h : OC w0 w B c) (T : Touch S w w') (hS : ∀ k ∈ S, (∃ cs, Blk w k 45 cs) ∨ ∃ cs, Blk w k 31 cs) : OC w0 w' B c := by
  obtain ⟨mo, x, hk, hf⟩ := h.ex
  refine ⟨⟨mo, x, hk.touch T (fun k hk2 => ?_), hf⟩, h.inv, h.uses, h.most⟩
  have key : ∀ t cs, Blk w k t cs → t ≠ 56 → t ≠ 66 → t ≠ 65 → t ≠ 60 → k ∉ cfoot B mo x c.h ∧ ∀ y ∈ c.h, y.rv.ownBlock ≠ some k := by
    intro t cs hb h1 h2 h3 h4
    refine ⟨hk.ne_blk hb h1 h2 h3, fun y hy e => ?_⟩
    rcases (hk.recs y hy).2 with ⟨e2, _⟩ | ⟨g, cap, cur, e2, _, hg, _⟩
    · rw [e2] at e; cases e
    · rw [e2] at e
      injection e with e
      subst e
      exact hb.ne_type (t' := 60) (cs' := cur) hg h4 rfl
  rcases hS k hk2 with ⟨cs, hb⟩ | ⟨cs, hb⟩
  · exact key _ _ hb (by decide) (by decide) (by decide) (by decide)
  · exact key _ _ hb (by decide) (by decide) (by decide) (by decide)
/-- the slice, and an entry in it -/
theorem DCa.shape (h : DCa w D v b m L) : ∃ a cp, v = .slice a L.length cp := by
  obtain ⟨P, e, hr, _⟩ := h.row
  obtain ⟨a, cp, rfl⟩ := own_shape hr
  refine ⟨a, cp, ?_⟩
  rw [← e, List.length_map]
theorem DCa.at_ {a : Option Addr} {n cp : Nat} (h : DCa w D (.slice a n cp) b m L) (i : Nat) (hi : i < L.length) : ∃ g ra rc, a = some ⟨g, 0, none⟩ ∧ w.rangeAt g (i * 9) (entV L[i] (.slice ra L[i].recs.length rc)).toList ∧ w.ownsRow 0 60 5 (.slice ra L[i].recs.length rc) L[i].recs.length (flat L[i].recs) := by
  obtain ⟨P, e, hr, hp⟩ := h.row
  subst e
  have hiP : i < P.length := by simpa using hi
  have hn : n = P.length := by
    obtain ⟨a', c', e⟩ := own_shape hr
    injection e
  obtain ⟨g, rfl, hc⟩ := row_at hr (by omega)
  have h5 := hp P[i] (List.getElem_mem hiP)
  obtain ⟨ra, rc, e⟩ := own_shape h5
  have eL : (P.map (·.1))[i] = P[i].1 := by simp
  rw [eL]
  refine ⟨g, ra, rc, rfl, ?_, by rw [← e]; exact h5⟩
  intro j u hj
  rw [← e] at hj
  have hj9 : j < 9 := by
    have := (List.getElem?_eq_some_iff.1 hj).1
    simpa [entV] using this
  exact hc (i * 9 + j) u (by rw [flatP_get P i hiP j hj9]; exact hj)
end
theorem dnew_any (w : World) (n : Int) : Calls Tryz.prog 6 #[.int .i64 n] w fun e w' => e = .returned (.pointer (some ⟨w.heap.size, 0, none⟩)) ∧ w' = w.alloc (.cells #[.int .i64 (min (max n 1) 100000), .slice none 0 0] 45) := by
  by_cases h1 : n < 1
  · have HR := Lib.hid (show min (max n 1) 100000 = 1 by omega)
    rw [HR.out]
    go_enter Tryz.func6, Tryz.ntmps6
    go_wp2_with fail
    go_ret
    exact ⟨rfl, rfl⟩
  · have h1' : 1 ≤ n := by omega
    by_cases h2 : 100000 < n
    · have HR := Lib.hid (show min (max n 1) 100000 = 100000 by omega)
      rw [HR.out]
      clear h1
      go_enter Tryz.func6, Tryz.ntmps6
      go_wp2_with fail
      go_ret
      exact ⟨rfl, rfl⟩
    · have HR := Lib.hid (show min (max n 1) 100000 = n by omega)
      rw [HR.out]
      have h2' : n ≤ 100000 := by omega
      clear h1 h2
      go_enter Tryz.func6, Tryz.ntmps6
      go_wp2_with fail
      go_ret
      exact ⟨rfl, rfl⟩
theorem DCa.start (w : World) (b : Nat) (hb : b ≤ w.heap.size) (m : Int) : DCa (w.alloc (.cells #[.int .i64 m, .slice none 0 0] 45)) w.heap.size (.slice none 0 0) b m [] :=
  ⟨Blk.new w _ _, hb, ⟨[], rfl, World.ownsRow_nil _ _ _ _, by simp⟩, by simp, by simp⟩
/-- what find tells -/
def dfindI (L : List CM.E) (k : ByteArray) : Int := match CM.dfind L k with
  | none => -1
  | some i => (i : Int)
theorem dfind_at {L : List CM.E} {k : ByteArray} {i : Nat} (hi : i < L.length) (h1 : ∀ j (hj : j < i), CM.key (L[j]'(by omega)) ≠ k) (h2 : CM.key L[i] = k) : CM.dfind L k = some i := by
  unfold CM.dfind
  rw [List.findIdx?_eq_some_iff_getElem]
  exact ⟨hi, decide_eq_true h2, fun j hj => by simpa using h1 j hj⟩
theorem dfind_no {L : List CM.E} {k : ByteArray} (h1 : ∀ j (hj : j < L.length), CM.key L[j] ≠ k) : CM.dfind L k = none := by
  unfold CM.dfind
  rw [List.findIdx?_eq_none_iff]
  intro e he
  obtain ⟨j, hj, rfl⟩ := List.mem_iff_getElem.1 he
  exact decide_eq_false (h1 j hj)
set_option maxRecDepth 10000 in
set_option maxHeartbeats 2000000 in
theorem dfind_any (w : World) (D : Nat) (v : Value) (b : Nat) (m : Int) (L : List CM.E) (h : DCa w D v b m L) (k : ByteArray) :
    Calls Tryz.prog 45 #[.pointer (some ⟨D, 0, none⟩), .string k] w fun e w' => e = .returned (.int .i64 (dfindI L k)) ∧ Touch [] w w' := by
  obtain ⟨a, cp, rfl⟩ := h.shape
  obtain ⟨n, hn⟩ : ∃ n, n = L.length := ⟨_, rfl⟩
  rw [← hn] at h
  have HH := Lib.hid h
  have HN := Lib.hid (And.intro hn h.len)
  obtain ⟨r, hr⟩ : ∃ r, r = dfindI L k := ⟨_, rfl⟩
  rw [← hr]
  have HR := Lib.hid hr
  clear h hn hr
  go_enter Tryz.func45, Tryz.ntmps45
  go_wp2_with fail
  go_loopw [5] (fun s5 wr => ∃ i : Nat, s5 = .int .i64 (i : Int) ∧ i ≤ n ∧ (∀ j (hj : j < i) (h : j < L.length), CM.key L[j] ≠ k) ∧ Touch [] w wr) (fun s5 _ => n - (intOf s5).toNat)
  case atStart => exact ⟨0, rfl, Nat.zero_le _, fun j hj => by omega, Touch.refl _ _⟩
  case round =>
    obtain ⟨i, rfl, hi, hno, hT⟩ := hrel
    obtain ⟨wo, rfl⟩ : ∃ wo, wo = wr := ⟨_, rfl⟩
    have h := HH.out.quiet hT
    have c1 : wo.cell? ⟨D, 1, none⟩ = some (.slice a n cp) := h.blk.cell 1
    have HS := Lib.hid (And.intro hi (And.intro hno hT))
    clear hi hno hT
    by_cases hlt : i < n
    · have hltI : (i : Int) < (n : Int) := by omega
      have hiL : i < L.length := by have := HN.out.1; omega
      obtain ⟨g, ra, rc, rfl, hrg, _⟩ := h.at_ i hiL
      have hok := h.ok L[i] (List.getElem_mem hiL)
      have HK := Lib.hid (fun W => rKey_any W L[i] (.slice ra L[i].recs.length rc) hok.1.1 hok.2.1 hok.2.2)
      obtain ⟨q, hq⟩ : ∃ q, q = CM.key L[i] := ⟨_, rfl⟩
      rw [← hq] at HK
      have HQ := Lib.hid hq
      have HRG := Lib.hid hrg
      obtain ⟨E, hE⟩ : ∃ E, E = L[i] := ⟨_, rfl⟩
      rw [← hE] at HK HRG
      have HLT := Lib.hid hlt
      have hwr : wrap64 ((i : Int) + 1) = (i : Int) + 1 := IntWalk.wrap64_in _ (by have := HN.out; omega)
      clear hq hrg hok h hE hlt
      go_wp2_with (refine wpList_load_mid rfl 31 (.tmp 20) rfl g (i * 9) rfl _ _ HRG.out Tryz.underlying31 rfl (by kernel_rfl) ?_)
      refine (HK.out _).mono ?_
      rintro e w1 ⟨rfl, T1⟩
      have HT1 := Lib.hid (HS.out.2.2.trans T1 (by simp))
      clear T1 c1
      by_cases hqk : q = k
      · have hb : (q.toList == k.toList) = true := by rw [hqk]; simp
        have HE := Lib.hid (show r = (i : Int) by
          rw [HR.out]
          unfold dfindI
          rw [dfind_at hiL (fun j hj => HS.out.2.1 j hj (by omega)) (by rw [← HQ.out, hqk])])
        clear hqk
        go_wp2_with fail
        go_ret
        exact ⟨by rw [HE.out]; rfl, HT1.out⟩
      · have hb : (q.toList == k.toList) = false := str_ne hqk
        have HNE := Lib.hid hqk
        clear hqk
        go_wp2_with fail
        go_roundw
        case rel =>
          refine ⟨i + 1, by rw [hwr]; rfl, HLT.out, fun j hj h9 => ?_, HT1.out⟩
          rcases Nat.lt_or_ge j i with h8 | h8
          · exact HS.out.2.1 j h8 h9
          · have h7 : j = i := by omega
            subst h7
            rw [← HQ.out]
            exact HNE.out
        case measure => exact lt_sub_of (x := i + 1) (i := i) (by rw [hwr]; rfl) rfl (by have := HLT.out; omega)
    · have hge : (n : Int) ≤ (i : Int) := by omega
      have HE := Lib.hid (show r = -1 by
        rw [HR.out]
        unfold dfindI
        rw [dfind_no (fun j hj => HS.out.2.1 j (by have := HN.out; omega) hj)])
      clear hlt h
      go_wp2_with fail
      go_ret
      exact ⟨by rw [HE.out]; rfl, HS.out.2.2⟩
end Go.Proofs.YtibbfihnhlgkeaaGreat

/- The document's cache: drop, append. -/
namespace Go.Proofs.YtibbfihnhlgkeaaGreat
open Go.RowKit Go.Maps Go.WideMaps
open NM (Bs bs ofBs)
open CM (It C)

theorem flatP_append (l k : List (CM.E × Value)) : flatP (l ++ k) = flatP l ++ flatP k := by
  unfold flatP
  rw [List.flatMap_append]
theorem flatP_one (l : List (CM.E × Value)) : ∀ u ∈ flatP l, ∃ p ∈ l, u ∈ (entV p.1 p.2).toList := by
  intro u hu
  unfold flatP at hu
  obtain ⟨p, hp, hu⟩ := List.mem_flatMap.1 hu
  exact ⟨p, hp, hu⟩
theorem erase_map (f : CM.E × Value → CM.E) (P : List (CM.E × Value)) (i : Nat) : (P.eraseIdx i).map f = (P.map f).eraseIdx i := CM.map_erase f P i
/-- the cells of a part of a row -/
theorem flatP_part (P : List (CM.E × Value)) (i k : Nat) (hk : i + k ≤ P.length) : ∀ j u, (flatP ((P.drop i).take k))[j]? = some u → (flatP P)[i * 9 + j]? = some u := by
  intro j u h
  have e : P = P.take i ++ ((P.drop i).take k ++ (P.drop i).drop k) := by rw [List.take_append_drop, List.take_append_drop]
  rw [e, flatP_append, flatP_append]
  have h1 : (flatP (P.take i)).length = i * 9 := by rw [flatP_length, List.length_take]; congr 1; omega
  rw [List.getElem?_append_right (by omega), h1, show i * 9 + j - i * 9 = j by omega]
  have h2 : j < (flatP ((P.drop i).take k)).length := (List.getElem?_eq_some_iff.1 h).1
  rw [List.getElem?_append_left h2]
  exact h
theorem prow_one {w : World} {P : List (CM.E × Value)} (h : ∀ p ∈ P, w.ownsRow 0 60 5 p.2 p.1.recs.length (flat p.1.recs)) : ∀ u ∈ flatP P, u.oneCell' = true := by
  intro u hu
  obtain ⟨p, hp, hu⟩ := flatP_one P u hu
  obtain ⟨a, c, e⟩ := own_shape (h p hp)
  rw [e] at hu
  exact ent_one _ _ _ _ u hu
theorem erase_parts (P : List (CM.E × Value)) (i : Nat) (hi : i < P.length) : flatP (P.take i) ++ flatP (P.drop (i + 1)) = flatP (P.eraseIdx i) ∧ (P.eraseIdx i).length = i + (P.length - (i + 1)) := by
  rw [List.eraseIdx_eq_take_drop_succ, flatP_append]
  refine ⟨rfl, ?_⟩
  rw [List.length_append, List.length_take, List.length_drop]
  omega
theorem drop_end {w w2 : World} {D : Nat} {v v2 : Value} {b : Nat} {m : Int} {L : List CM.E} (h : DCa w D v b m L) {P : List (CM.E × Value)} (hPe : P.map (·.1) = L) (hrec : ∀ p ∈ P, w.ownsRow 0 60 5 p.2 p.1.recs.length (flat p.1.recs)) (i : Nat) (hi : i < P.length) (T : Touch [] w w2) {k : Nat}
    (hown : w2.ownsRow w.heap.size 31 9 v2 k (flatP (P.take i) ++ flatP (P.drop (i + 1)))) (hk : k = i + (P.length - (i + 1))) :
    ∃ v', DCa (w2.setCell ⟨D, 1, none⟩ v2) D v' b m (L.eraseIdx i) ∧ Touch [D] w (w2.setCell ⟨D, 1, none⟩ v2) ∧ ∀ q, v'.ownBlock = some q → w.heap.size ≤ q := by
  obtain ⟨e1, e2⟩ := erase_parts P i hi
  rw [e1] at hown
  have hown2 := own_n hown (hk.trans e2.symm)
  have hD := h.blk.lt
  have t1 : Touch [D] w2 (w2.setCell ⟨D, 1, none⟩ v2) := (Touch.refl _ w2).setCell ⟨D, 1, none⟩ v2 (.inl (by simp))
  refine ⟨v2, ⟨(T.blk h.blk (by simp)).set_ 1 v2, h.ge, ⟨P.eraseIdx i, by rw [erase_map, hPe], ?_, fun p hp => ?_⟩, fun e he => h.ok e ((List.eraseIdx_sublist L i).subset he), Nat.le_trans (List.eraseIdx_sublist L i).length_le h.len⟩, (T.mono (by simp)).trans t1 (fun q hq => .inl hq), fun q hq => (hown2.lt q hq).1⟩
  · refine trow_base (trow_touch hown2 t1 (fun q hq hm => ?_)) (by have := h.ge; omega)
    simp only [List.mem_cons, List.not_mem_nil, or_false] at hm
    have := (hown2.lt q hq).1
    omega
  · have h5 := trow_touch (hrec p ((List.eraseIdx_sublist P i).subset hp)) T (by simp)
    refine trow_touch h5 t1 (fun q hq hm => ?_)
    simp only [List.mem_cons, List.not_mem_nil, or_false] at hm
    subst hm
    rcases h5.2 with ⟨e2, _⟩ | ⟨g, cap, cur, e2, _, hg, _⟩
    · rw [e2] at hq; cases hq
    · rw [e2] at hq
      injection hq with hq
      subst hq
      exact (T.blk h.blk (by simp)).ne_type (show Blk w2 g 60 cur from hg) (by decide) rfl
set_option maxRecDepth 10000 in
set_option maxHeartbeats 2000000 in
theorem ddrop_any (w : World) (D : Nat) (v : Value) (b : Nat) (m : Int) (L : List CM.E) (h : DCa w D v b m L) (i : Nat) (hi : i < L.length) :
    Calls Tryz.prog 31 #[.pointer (some ⟨D, 0, none⟩), .int .i64 (i : Int)] w fun e w' => (∃ r, e = .returned r) ∧ ∃ v', DCa w' D v' b m (L.eraseIdx i) ∧ Touch [D] w w' ∧ ∀ k, v'.ownBlock = some k → w.heap.size ≤ k := by
  obtain ⟨P, hPe, hrow, hrec⟩ := h.row
  have hlen := h.len
  obtain ⟨a, cp, rfl⟩ := own_shape hrow
  have hPl : P.length = L.length := by rw [← hPe, List.length_map]
  have hbz : b ≤ w.heap.size := by have := h.blk.lt; have := h.ge; omega
  obtain ⟨g, rfl, hcell⟩ := row_at hrow (by omega)
  have hcap : P.length ≤ cp ∧ cp ≤ maxLen := by
    rcases hrow.2 with ⟨e, _⟩ | ⟨g', cap', cur, e, _, _, h3, h4, _⟩
    · cases e
    · injection e with _ _ e3
      subst e3
      exact ⟨h3, h4⟩
  obtain ⟨n, hn⟩ : ∃ n, n = P.length := ⟨_, rfl⟩
  obtain ⟨i1, hi1, hx1, hx2, hx3⟩ := info_parts infoCached
  have HI := Lib.hid (And.intro hi1 (And.intro hx1 (And.intro hx2 hx3)))
  have HH := Lib.hid h
  have HP := Lib.hid (And.intro hPe (And.intro hrec (And.intro hPl (And.intro hbz (And.intro hlen hn)))))
  have HC := Lib.hid (fun W (T : Touch [] w W) j u (hu : (flatP P)[j]? = some u) => touch_cell T (hcell j u hu) (by simp))
  have c1 : w.cell? ⟨D, 1, none⟩ = some (.slice (some ⟨g, 0, none⟩) P.length cp) := h.blk.cell 1
  rw [← hn] at c1
  have hiI : (i : Int) ≤ (cp : Int) := by omega
  have hin : (i : Int) + 1 ≤ (n : Int) := by omega
  have c1w := Lib.hid c1
  have HIN := Lib.hid (And.intro hin (And.intro hi hcap))
  have hncp : (n : Int) ≤ (cp : Int) := by omega
  have HN1 := Lib.hid (show (∀ j u, (flatP (P.take i))[j]? = some u → w.cell? ((⟨g, 0, none⟩ : Addr).add j) = some u) ∧ (flatP (P.take i)).length = i * 9 ∧ ∀ u ∈ flatP (P.take i), u.oneCell' = true from by
    refine ⟨fun j u hu => ?_, by rw [flatP_length, List.length_take]; congr 1; omega, prow_one (fun p hp => hrec p (List.mem_of_mem_take hp))⟩
    rw [add_none, Nat.zero_add]
    have := flatP_part P 0 i (by omega) j u (by rw [List.drop_zero]; exact hu)
    rw [Nat.zero_mul, Nat.zero_add] at this
    exact hcell j u this)
  have HN2 := Lib.hid (show ∀ W, Touch [] w W → (∀ j u, (flatP (P.drop (i + 1)))[j]? = some u → W.cell? ((⟨g, (i + 1) * 9, none⟩ : Addr).add j) = some u) ∧ (flatP (P.drop (i + 1))).length = (n - (i + 1)) * 9 ∧ ∀ u ∈ flatP (P.drop (i + 1)), u.oneCell' = true from fun W T => by
    refine ⟨fun j u hu => ?_, by rw [flatP_length, List.length_drop, hn], prow_one (fun p hp => hrec p (List.mem_of_mem_drop hp))⟩
    rw [add_none]
    have := flatP_part P (i + 1) (P.length - (i + 1)) (by omega) j u (by rw [List.take_of_length_le (by rw [List.length_drop]; omega)]; exact hu)
    exact touch_cell T (hcell _ u this) (by simp))
  have hw1 : wrap64 ((i : Int) + 1) = (i : Int) + 1 := IntWalk.wrap64_in _ (by omega)
  clear hPe hrec hPl hbz hcell h hlen hi1 hx1 hx2 hx3 hrow hn hcap hi
  go_enter Tryz.func31, Tryz.ntmps31
  go_upto_region 2 with (at_builtin; refine wpList_append_own_at _ rfl (.tmp 5) (.tmp 11) 42 rfl w.heap.size 31 i1 _ 9 88 Tryz.underlying42 HI.out.1 HI.out.2.1 HI.out.2.2.1 HI.out.2.2.2 rfl (by decide) (.slice none 0 0) 0 [] rfl (World.ownsRow_nil _ _ _ _) ⟨g, 0, none⟩ i cp (flatP (P.take i)) rfl HN1.out.2.1 HN1.out.1 HN1.out.2.2 (by have := HIN.out; omega) (by have := HIN.out; have := HP.out.2.2.2.2.1; have := HP.out.2.2.1; omega) (Nat.le_refl _) ?_; intro v1 w1 hown1 hgrow1 _ hat1)
  have T1 : Touch [] w w1 := Touch.of_grown hgrow1
  have hown1 := own_n hown1 (Nat.zero_add i)
  rw [List.nil_append] at hown1
  obtain ⟨a1, ca1, rfl⟩ := own_shape hown1
  have c1' := touch_cell T1 c1 (by simp)
  have HO1 := Lib.hid (And.intro hown1 T1)
  have HN2' := Lib.hid (HN2.out w1 T1)
  have hB1 := T1.blk HH.out.blk (by simp)
  have f1 : w1.frozen? ⟨D, 1, none⟩ = false := hB1.frozen 1
  have HB1 := Lib.hid hB1
  clear hown1 T1 hgrow1 hat1 c1 HN2 hB1
  by_cases hcc : cp = i + 1
  · obtain rfl : n = i + 1 := by have := HIN.out; have := HP.out.2.2.2.2.2; omega
    subst hcc
    have HN3 := Lib.hid (show flatP (P.drop (i + 1)) = [] by rw [List.drop_of_length_le (by have := HP.out.2.2.2.2.2; omega)]; rfl)
    go_wp2_with (at_builtin; refine wpList_append_own_at _ rfl (.tmp 14) (.tmp 21) 42 rfl w.heap.size 31 i1 _ 9 88 Tryz.underlying42 HI.out.1 HI.out.2.1 HI.out.2.2.1 HI.out.2.2.2 rfl (by decide) (.slice a1 i ca1) i (flatP (P.take i)) rfl HO1.out.1 ⟨g, 0, none⟩ 0 0 [] rfl rfl (fun j u hu => by cases hu) (fun u hu => by cases hu) (by have := HIN.out; omega) (by have := HIN.out; have := HP.out.2.2.2.2.1; have := HP.out.2.2.1; omega) HO1.out.2.size ?_; intro v2 w2 hown2 hgrow2 _ hat2; obtain ⟨a2, ca2, rfl⟩ := own_shape hown2; have c1 := touch_cell (HO1.out.2.trans (Touch.of_grown hgrow2) (fun k hk => .inr (HO1.out.1.lt k (by simpa using hk)).1)) c1w.out (by simp); have f2 := ((HO1.out.2.trans (Touch.of_grown hgrow2) (fun k hk => .inr (HO1.out.1.lt k (by simpa using hk)).1)).blk HH.out.blk (by simp)).frozen 1)
    go_returns
    have T2 : Touch [] w w2 := HO1.out.2.trans (Touch.of_grown hgrow2) (fun k hk => .inr (HO1.out.1.lt k (by simpa using hk)).1)
    exact ⟨⟨_, rfl⟩, drop_end HH.out HP.out.1 HP.out.2.1 i (by have := HP.out.2.2.2.2.2; omega) T2 (by rw [HN3.out]; exact hown2) (by have := HP.out.2.2.2.2.2; omega)⟩
  · have hlt : i + 1 < cp := by have := HIN.out; omega
    go_wp2_with (at_builtin; refine wpList_append_own_at _ rfl (.tmp 14) (.tmp 21) 42 rfl w.heap.size 31 i1 _ 9 88 Tryz.underlying42 HI.out.1 HI.out.2.1 HI.out.2.2.1 HI.out.2.2.2 rfl (by decide) (.slice a1 i ca1) i (flatP (P.take i)) rfl HO1.out.1 ⟨g, (i + 1) * 9, none⟩ (n - (i + 1)) (cp - (i + 1)) (flatP (P.drop (i + 1))) rfl HN2'.out.2.1 HN2'.out.1 HN2'.out.2.2 (by have := HIN.out; omega) (by have := HIN.out; have := HP.out.2.2.2.2; have := HP.out.2.2.1; omega) HO1.out.2.size ?_; intro v2 w2 hown2 hgrow2 _ hat2; obtain ⟨a2, ca2, rfl⟩ := own_shape hown2; have c1 := touch_cell (HO1.out.2.trans (Touch.of_grown hgrow2) (fun k hk => .inr (HO1.out.1.lt k (by simpa using hk)).1)) c1w.out (by simp); have f2 := ((HO1.out.2.trans (Touch.of_grown hgrow2) (fun k hk => .inr (HO1.out.1.lt k (by simpa using hk)).1)).blk HH.out.blk (by simp)).frozen 1)
    go_returns
    have T2 : Touch [] w w2 := HO1.out.2.trans (Touch.of_grown hgrow2) (fun k hk => .inr (HO1.out.1.lt k (by simpa using hk)).1)
    exact ⟨⟨_, rfl⟩, drop_end HH.out HP.out.1 HP.out.2.1 i (by have := HIN.out; have := HP.out.2.2.2.2.2; omega) T2 hown2 (by have := HP.out.2.2.2.2.2; omega)⟩
end Go.Proofs.YtibbfihnhlgkeaaGreat

/- The document's cache: Expire, Flush. -/
namespace Go.Proofs.YtibbfihnhlgkeaaGreat
open Go.RowKit Go.Maps Go.WideMaps
open NM (Bs bs ofBs)
open CM (It C)

/-- what is left when p were looked at -/
structure Scan (L : List CM.E) (keep : CM.E → Bool) (p i n : Nat) (L' : List CM.E) : Prop where
  eq : L' = (L.take p).filter keep ++ L.drop p
  ie : i = ((L.take p).filter keep).length
  ne : n + i = p
  le : p ≤ L.length
section
variable {L L' : List CM.E} {keep : CM.E → Bool} {p i n : Nat}
theorem Scan.start : Scan L keep 0 0 0 L := ⟨by simp, by simp, rfl, Nat.zero_le _⟩
theorem Scan.len (h : Scan L keep p i n L') : L'.length = i + (L.length - p) := by rw [h.eq, List.length_append, ← h.ie, List.length_drop]
theorem Scan.at_ (h : Scan L keep p i n L') (hi : i < L'.length) : ∃ hp : p < L.length, L'[i] = L[p] := by
  have hl := h.len
  have hp : p < L.length := by omega
  refine ⟨hp, ?_⟩
  have h2 : L'[i]? = some L[p] := by
    rw [h.eq, h.ie, List.getElem?_append_right (Nat.le_refl _), Nat.sub_self, List.drop_eq_getElem_cons hp]
    rfl
  rw [List.getElem?_eq_some_iff] at h2
  exact h2.2
theorem Scan.stay (h : Scan L keep p i n L') (hp : p < L.length) (hk : keep L[p] = true) : Scan L keep (p + 1) (i + 1) n L' := by
  have e : (L.take (p + 1)).filter keep = (L.take p).filter keep ++ [L[p]] := by
    rw [List.take_succ_eq_append_getElem hp, List.filter_append, List.filter_cons_of_pos hk]
    rfl
  refine ⟨?_, ?_, by have := h.ne; omega, hp⟩
  · rw [e, h.eq, List.drop_eq_getElem_cons hp, List.append_assoc]
    rfl
  · rw [e, List.length_append, ← h.ie]
    rfl
theorem Scan.gone (h : Scan L keep p i n L') (hp : p < L.length) (hk : keep L[p] = false) : Scan L keep (p + 1) i (n + 1) (L'.eraseIdx i) := by
  have e : (L.take (p + 1)).filter keep = (L.take p).filter keep := by
    rw [List.take_succ_eq_append_getElem hp, List.filter_append, List.filter_cons_of_neg (by rw [hk]; simp)]
    simp
  refine ⟨?_, by rw [e]; exact h.ie, by have := h.ne; omega, hp⟩
  rw [e, h.eq, h.ie, List.eraseIdx_append_of_length_le (Nat.le_refl _), Nat.sub_self, List.drop_eq_getElem_cons hp]
  rfl
theorem Scan.stop (h : Scan L keep p i n L') (hi : L'.length ≤ i) : L' = L.filter keep ∧ n + (L.filter keep).length = L.length := by
  have hl := h.len
  have hp : p = L.length := by have := h.le; omega
  have e : L.take p = L := List.take_of_length_le (by omega)
  have h1 := h.eq
  rw [e, List.drop_of_length_le (by omega), List.append_nil] at h1
  refine ⟨h1, ?_⟩
  have h2 := h.ie
  rw [e] at h2
  have := h.ne
  omega
end
/-- what a call on the document's cache leaves -/
structure DEnd (w w' : World) (D : Nat) (v v' : Value) (b : Nat) (m : Int) (L' : List CM.E) : Prop where
  at_ : DCa w' D v' b m L'
  t : Touch (dft D v) w w'
  own : ∀ k, v'.ownBlock = some k → v.ownBlock = some k ∨ w.heap.size ≤ k
section
variable {w w' w'' : World} {D b : Nat} {v v' v'' : Value} {m : Int} {L L' : List CM.E}
theorem DEnd.refl (h : DCa w D v b m L) : DEnd w w D v v b m L := ⟨h, Touch.refl _ _, fun _ hk => .inl hk⟩
theorem DEnd.quiet (h : DEnd w w' D v v' b m L) (T : Touch [] w' w'') : DEnd w w'' D v v' b m L := ⟨h.at_.quiet T, h.t.trans T (by simp), h.own⟩
theorem DEnd.trans (h : DEnd w w' D v v' b m L) (h2 : DEnd w' w'' D v' v'' b m L') : DEnd w w'' D v v'' b m L' := by
  refine ⟨h2.at_, h.t.trans h2.t (fun k hk => ?_), fun k hk => ?_⟩
  · unfold dft at hk
    rcases List.mem_cons.1 hk with rfl | hk
    · exact .inl (by unfold dft; simp)
    · rcases h.own k (by simpa using hk) with h3 | h3
      · exact .inl (by unfold dft; simp [h3])
      · exact .inr h3
  · rcases h2.own k hk with h3 | h3
    · exact h.own k h3
    · exact .inr (Nat.le_trans h.t.size h3)
theorem DEnd.of_drop (h : DCa w' D v' b m L') (t : Touch [D] w w') (hf : ∀ k, v'.ownBlock = some k → w.heap.size ≤ k) : DEnd w w' D v v' b m L' :=
  ⟨h, t.mono (fun k hk => .inl (by simp at hk; subst hk; unfold dft; simp)), fun k hk => .inr (hf k hk)⟩
end
set_option maxRecDepth 10000 in
set_option maxHeartbeats 2000000 in
theorem dexpire_any (w : World) (D : Nat) (v : Value) (b : Nat) (m : Int) (L : List CM.E) (h : DCa w D v b m L) (now : Int) :
    Calls Tryz.prog 14 #[.pointer (some ⟨D, 0, none⟩), .int .i64 now] w fun e w' => ∃ (n : Nat) (v' : Value), e = .returned (.int .i64 (n : Int)) ∧ n + (CM.dexpire L now).length = L.length ∧ DEnd w w' D v v' b m (CM.dexpire L now) := by
  have HH := Lib.hid h
  have hlen := h.len
  have HL := Lib.hid hlen
  obtain ⟨keep, hkeep⟩ : ∃ f : CM.E → Bool, f = fun e => decide (now ≤ e.til) := ⟨_, rfl⟩
  have HK := Lib.hid (show ∀ e : CM.E, keep e = decide (now ≤ e.til) from fun e => by rw [hkeep])
  have HKE := Lib.hid (show CM.dexpire L now = L.filter keep by rw [hkeep]; rfl)
  rw [HKE.out]
  clear h hlen hkeep
  go_enter Tryz.func14, Tryz.ntmps14
  go_wp2_with fail
  go_loopw [5, 6] (fun s5 s6 wr => ∃ (p i n : Nat) (L' : List CM.E) (v' : Value), s5 = .int .i64 (n : Int) ∧ s6 = .int .i64 (i : Int) ∧ Scan L keep p i n L' ∧ DEnd w wr D v v' b m L') (fun s5 s6 _ => L.length - ((intOf s5).toNat + (intOf s6).toNat))
  case atStart => exact ⟨0, 0, 0, L, v, rfl, rfl, Scan.start, DEnd.refl HH.out⟩
  case round =>
    obtain ⟨p, i, n, L', v', rfl, rfl, hs, he⟩ := hrel
    obtain ⟨wo, rfl⟩ : ∃ wo, wo = wr := ⟨_, rfl⟩
    obtain ⟨a, cp, rfl⟩ := he.at_.shape
    obtain ⟨nl, hnl⟩ : ∃ nl, nl = L'.length := ⟨_, rfl⟩
    have c1 : wo.cell? ⟨D, 1, none⟩ = some (.slice a nl cp) := by rw [hnl]; exact he.at_.blk.cell 1
    rw [← hnl] at he
    have HS := Lib.hid hs
    have HE := Lib.hid he
    have HN := Lib.hid hnl
    have HB := Lib.hid (show i ≤ 1000000 ∧ n ≤ 1000000 by have := hs.ne; have := hs.le; have := HL.out; omega)
    clear hs he hnl
    by_cases hlt : i < nl
    · have hltI : (i : Int) < (nl : Int) := by omega
      have hiL : i < L'.length := by have := HN.out; omega
      obtain ⟨g, ra, rc, rfl, hrg, hrr⟩ := HE.out.at_.at_ i hiL
      obtain ⟨hp, hx⟩ := HS.out.at_ hiL
      rw [hx] at hrg
      have c2 : wo.cell? ⟨g, i * 9 + 5, none⟩ = some (.int .i64 L[p].til) := hrg 5 _ rfl
      have hk := HK.out L[p]
      have HSS := Lib.hid (show (keep L[p] = true → Scan L keep (p + 1) (i + 1) n L') ∧ (keep L[p] = false → Scan L keep (p + 1) i (n + 1) (L'.eraseIdx i)) from ⟨HS.out.stay hp, HS.out.gone hp⟩)
      obtain ⟨x, hxe⟩ : ∃ x, x = L[p] := ⟨_, rfl⟩
      have HPL := Lib.hid hp
      rw [← hxe] at c2 hk HSS
      obtain ⟨til, htil⟩ : ∃ t, t = x.til := ⟨_, rfl⟩
      rw [← htil] at c2 hk
      have HKX := Lib.hid hk
      have hwn : wrap64 ((n : Int) + 1) = (n : Int) + 1 := IntWalk.wrap64_in _ (by have := HB.out; omega)
      have hwi : wrap64 ((i : Int) + 1) = (i : Int) + 1 := IntWalk.wrap64_in _ (by have := HB.out; omega)
      have HW := Lib.hid (And.intro hwn hwi)
      have HIL := Lib.hid (And.intro hiL HS.out.ne)
      clear hrr hrg hx hk hxe htil hiL hp hwn hwi hlt
      by_cases hst : til < now
      · have HSC := Lib.hid (HSS.out.2 (by rw [HKX.out]; exact decide_eq_false (by omega)))
        have HD := Lib.hid (ddrop_any wo D _ b m L' HE.out.at_ i HIL.out.1)
        clear HSS
        go_wp2_with fail
        refine HD.out.mono ?_
        rintro e w3 ⟨⟨r, rfl⟩, v3, h3, t3, hf3⟩
        have HE3 := Lib.hid (HE.out.trans (DEnd.of_drop h3 t3 hf3))
        have hwn := HW.out.1
        clear h3 t3 hf3
        go_wp2_with fail
        go_roundw
        case rel => exact ⟨p + 1, i, n + 1, _, v3, by first | rfl | (rw [hwn]; rfl), rfl, HSC.out, HE3.out⟩
        case measure => exact lt_sub_of (x := n + 1 + i) (i := n + i) (by first | rfl | (rw [hwn]; rfl)) rfl (by have := HIL.out.2; have := HPL.out; omega)
      · have HSC := Lib.hid (HSS.out.1 (by rw [HKX.out]; exact decide_eq_true (by omega)))
        have hge : now ≤ til := by omega
        have hwi := HW.out.2
        clear HSS hst
        go_wp2_with fail
        go_roundw
        case rel => exact ⟨p + 1, i + 1, n, L', _, rfl, by first | rfl | (rw [hwi]; rfl), HSC.out, HE.out⟩
        case measure => exact lt_sub_of (x := n + (i + 1)) (i := n + i) (by first | rfl | (rw [hwi]; rfl)) rfl (by have := HIL.out.2; have := HPL.out; omega)
    · have hge : (nl : Int) ≤ (i : Int) := by omega
      have HX := Lib.hid (HS.out.stop (by have := HN.out; omega))
      clear hlt
      go_wp2_with fail
      go_ret
      exact ⟨n, _, rfl, HX.out.2, by rw [← HX.out.1]; exact HE.out⟩
set_option maxRecDepth 10000 in
set_option maxHeartbeats 2000000 in
theorem dflush_any (w : World) (D : Nat) (v : Value) (b : Nat) (m : Int) (L : List CM.E) (h : DCa w D v b m L) (z : ByteArray) (hz : z.size ≤ 1099511627776) (ep : Int) :
    Calls Tryz.prog 16 #[.pointer (some ⟨D, 0, none⟩), .string z, .int .i64 ep] w fun e w' => ∃ (n : Nat) (v' : Value), e = .returned (.int .i64 (n : Int)) ∧ n + (CM.dflush L z ep).length = L.length ∧ DEnd w w' D v v' b m (CM.dflush L z ep) := by
  have HH := Lib.hid h
  have hlen := h.len
  have HL := Lib.hid hlen
  have HZ := Lib.hid hz
  obtain ⟨keep, hkeep⟩ : ∃ f : CM.E → Bool, f = fun e => !CM.dflushed z ep e := ⟨_, rfl⟩
  have HK := Lib.hid (show ∀ e : CM.E, keep e = !(decide (e.epoch < ep) && NM.under (bs e.name) (bs z)) from fun e => by rw [hkeep]; rfl)
  have HKE := Lib.hid (show CM.dflush L z ep = L.filter keep by rw [hkeep]; rfl)
  rw [HKE.out]
  clear h hlen hkeep hz
  go_enter Tryz.func16, Tryz.ntmps16
  go_wp2_with fail
  go_loopw [7, 8, 9] (fun s7 s8 s9 wr => ∃ (p i n : Nat) (L' : List CM.E) (v' : Value), s7 = .int .i64 (n : Int) ∧ s8 = .int .i64 (i : Int) ∧ Scan L keep p i n L' ∧ DEnd w wr D v v' b m L') (fun s7 s8 _ _ => L.length - ((intOf s7).toNat + (intOf s8).toNat))
  case atStart => exact ⟨0, 0, 0, L, v, rfl, rfl, Scan.start, DEnd.refl HH.out⟩
  case round =>
    obtain ⟨p, i, n, L', v', rfl, rfl, hs, he⟩ := hrel
    obtain ⟨wo, rfl⟩ : ∃ wo, wo = wr := ⟨_, rfl⟩
    obtain ⟨a, cp, rfl⟩ := he.at_.shape
    obtain ⟨nl, hnl⟩ : ∃ nl, nl = L'.length := ⟨_, rfl⟩
    have c1 : wo.cell? ⟨D, 1, none⟩ = some (.slice a nl cp) := by rw [hnl]; exact he.at_.blk.cell 1
    rw [← hnl] at he
    have HS := Lib.hid hs
    have HE := Lib.hid he
    have HN := Lib.hid hnl
    have HB := Lib.hid (show i ≤ 1000000 ∧ n ≤ 1000000 by have := hs.ne; have := hs.le; have := HL.out; omega)
    clear hs he hnl
    by_cases hlt : i < nl
    · have hltI : (i : Int) < (nl : Int) := by omega
      have hiL : i < L'.length := by have := HN.out; omega
      obtain ⟨g, ra, rc, rfl, hrg, hrr⟩ := HE.out.at_.at_ i hiL
      obtain ⟨hp, hx⟩ := HS.out.at_ hiL
      rw [hx] at hrg
      have c2 : wo.cell? ⟨g, i * 9 + 7, none⟩ = some (.int .i64 L[p].epoch) := hrg 7 _ rfl
      have c3 : wo.cell? ⟨g, i * 9 + 1, none⟩ = some (.string L[p].name) := hrg 1 _ rfl
      have hk := HK.out L[p]
      have HU := Lib.hid (fun W => runder_any W L[p].name z (HH.out.ok L[p] (List.getElem_mem hp)).1.1 HZ.out)
      have HSS := Lib.hid (show (keep L[p] = true → Scan L keep (p + 1) (i + 1) n L') ∧ (keep L[p] = false → Scan L keep (p + 1) i (n + 1) (L'.eraseIdx i)) from ⟨HS.out.stay hp, HS.out.gone hp⟩)
      obtain ⟨x, hxe⟩ : ∃ x, x = L[p] := ⟨_, rfl⟩
      have HPL := Lib.hid hp
      rw [← hxe] at c2 c3 hk HSS HU
      obtain ⟨epx, hepx⟩ : ∃ t, t = x.epoch := ⟨_, rfl⟩
      rw [← hepx] at c2 hk
      obtain ⟨un, hun⟩ : ∃ t, t = NM.under (bs x.name) (bs z) := ⟨_, rfl⟩
      rw [← hun] at hk HU
      have HKX := Lib.hid hk
      have hwn : wrap64 ((n : Int) + 1) = (n : Int) + 1 := IntWalk.wrap64_in _ (by have := HB.out; omega)
      have hwi : wrap64 ((i : Int) + 1) = (i : Int) + 1 := IntWalk.wrap64_in _ (by have := HB.out; omega)
      have HW := Lib.hid (And.intro hwn hwi)
      have HIL := Lib.hid (And.intro hiL HS.out.ne)
      have HC2 := Lib.hid (And.intro c1 c2)
      clear hrr hrg hx hk hxe hepx hun hiL hp hwn hwi hlt c2
      go_wp2_with fail
      refine (HU.out _).mono ?_
      rintro e w2 ⟨rfl, T2⟩
      have c1 := touch_cell T2 HC2.out.1 (by simp)
      have c2 := touch_cell T2 HC2.out.2 (by simp)
      have HE2 := Lib.hid (HE.out.quiet T2)
      obtain ⟨kx, hkx⟩ : ∃ t, t = keep x := ⟨_, rfl⟩
      rw [← hkx] at HSS HKX
      clear T2 HU hkx c3
      go_upto_region 5 with (fail)
      go_cut [39] from 27 to 46 (fun s wx => s = .bool (!kx) ∧ wx = w2)
      case first =>
        cases un with
        | true =>
          by_cases hep : epx < ep
          · have HD := Lib.hid (decide_eq_true hep)
            go_wp2_with fail
            go_meet
            exact ⟨by rw [HKX.out, HD.out]; rfl, rfl⟩
          · have HD := Lib.hid (decide_eq_false hep)
            have hep' : ep ≤ epx := by omega
            go_wp2_with fail
            go_meet
            exact ⟨by rw [HKX.out, HD.out]; rfl, rfl⟩
        | false =>
          go_wp2_with fail
          go_meet
          exact ⟨by rw [HKX.out, Bool.and_false]; rfl, rfl⟩
      case rest =>
      obtain ⟨rfl, hw⟩ := hcut
      obtain rfl := hw.symm
      clear c1 c2 HKX
      cases kx with
      | false =>
        have HSC := Lib.hid (HSS.out.2 rfl)
        have HD := Lib.hid (ddrop_any w2 D _ b m L' HE2.out.at_ i HIL.out.1)
        clear HSS
        go_wp2_with fail
        refine HD.out.mono ?_
        rintro e w3 ⟨⟨r, rfl⟩, v3, h3, t3, hf3⟩
        have HE3 := Lib.hid (HE2.out.trans (DEnd.of_drop h3 t3 hf3))
        have hwn := HW.out.1
        clear h3 t3 hf3
        go_wp2_with fail
        go_roundw
        case rel => exact ⟨p + 1, i, n + 1, _, v3, by first | rfl | (rw [hwn]; rfl), rfl, HSC.out, HE3.out⟩
        case measure => exact lt_sub_of (x := n + 1 + i) (i := n + i) (by first | rfl | (rw [hwn]; rfl)) rfl (by have := HIL.out.2; have := HPL.out; omega)
      | true =>
        have HSC := Lib.hid (HSS.out.1 rfl)
        have hwi := HW.out.2
        clear HSS
        go_wp2_with fail
        go_roundw
        case rel => exact ⟨p + 1, i + 1, n, L', _, rfl, by first | rfl | (rw [hwi]; rfl), HSC.out, HE2.out⟩
        case measure => exact lt_sub_of (x := n + (i + 1)) (i := n + i) (by first | rfl | (rw [hwi]; rfl)) rfl (by have := HIL.out.2; have := HPL.out; omega)
    · have hge : (nl : Int) ≤ (i : Int) := by omega
      have HX := Lib.hid (HS.out.stop (by have := HN.out; omega))
      clear hlt
      go_wp2_with fail
      go_ret
      exact ⟨n, _, rfl, HX.out.2, by rw [← HX.out.1]; exact HE.out⟩
end Go.Proofs.YtibbfihnhlgkeaaGreat

/- The document's cache: Put. -/
namespace Go.Proofs.YtibbfihnhlgkeaaGreat
open Go.RowKit Go.Maps Go.WideMaps
open NM (Bs bs ofBs)
open CM (It C)

theorem app_end {w w2 : World} {D : Nat} {v v2 : Value} {b : Nat} {m : Int} {L : List CM.E} (h : DCa w D v b m L) (hl : L.length ≤ 999999) {P : List (CM.E × Value)} (hPe : P.map (·.1) = L) (hrec : ∀ p ∈ P, w.ownsRow 0 60 5 p.2 p.1.recs.length (flat p.1.recs))
    (hrow : w.ownsRow b 31 9 v P.length (flatP P)) {e : CM.E} {rv : Value} (he : DOk e) (hr : w.ownsRow 0 60 5 rv e.recs.length (flat e.recs)) (T : Touch v.ownBlock.toList w w2)
    (hown : w2.ownsRow b 31 9 v2 (P.length + 1) (flatP P ++ (entV e rv).toList)) (hat : v2.ownBlock = v.ownBlock ∨ ∃ k, v2.ownBlock = some k ∧ w.heap.size ≤ k) :
    DEnd w (w2.setCell ⟨D, 1, none⟩ v2) D v v2 b m (L ++ [e]) := by
  have hD := h.blk.lt
  have hDv : D ∉ v.ownBlock.toList := by
    intro hm
    rw [Option.mem_toList] at hm
    rcases hrow.2 with ⟨e2, _⟩ | ⟨g, cap, cur, e2, _, hg, _⟩
    · rw [e2] at hm; cases hm
    · rw [e2] at hm
      injection hm with hm
      subst hm
      exact h.blk.ne_type (show Blk w g 31 cur from hg) (by decide) rfl
  have hB2 := T.blk h.blk hDv
  have hDv2 : ∀ q, v2.ownBlock = some q → q ∉ [D] := by
    intro q hq hm
    simp only [List.mem_cons, List.not_mem_nil, or_false] at hm
    subst hm
    rcases hat with e2 | ⟨k, e2, hk⟩
    · exact hDv (by rw [← e2, hq]; simp)
    · rw [hq] at e2
      injection e2 with e2
      omega
  have t1 : Touch [D] w2 (w2.setCell ⟨D, 1, none⟩ v2) := (Touch.refl _ w2).setCell ⟨D, 1, none⟩ v2 (.inl (by simp))
  have hrr : ∀ (x : Value) (n : Nat) (xs : List Value), w.ownsRow 0 60 5 x n xs → (w2.setCell ⟨D, 1, none⟩ v2).ownsRow 0 60 5 x n xs := fun x n xs hx => by
    have h5 := row_keep2 hx hrow (by decide) T
    refine trow_touch h5 t1 (fun q hq hm => ?_)
    simp only [List.mem_cons, List.not_mem_nil, or_false] at hm
    subst hm
    rcases h5.2 with ⟨e2, _⟩ | ⟨g, cap, cur, e2, _, hg, _⟩
    · rw [e2] at hq; cases hq
    · rw [e2] at hq
      injection hq with hq
      subst hq
      exact hB2.ne_type (show Blk w2 g 60 cur from hg) (by decide) rfl
  refine ⟨⟨hB2.set_ 1 v2, h.ge, ⟨P ++ [(e, rv)], by rw [List.map_append, hPe]; rfl, ?_, fun p hp => ?_⟩, fun x hx => ?_, by rw [List.length_append]; simp; omega⟩, ?_, fun q hq => ?_⟩
  · rw [flatP_snoc, List.length_append]
    exact trow_touch hown t1 hDv2
  · rcases List.mem_append.1 hp with hp | hp
    · exact hrr _ _ _ (hrec p hp)
    · simp only [List.mem_cons, List.not_mem_nil, or_false] at hp
      subst hp
      exact hrr _ _ _ hr
  · rcases List.mem_append.1 hx with hx | hx
    · exact h.ok x hx
    · simp only [List.mem_cons, List.not_mem_nil, or_false] at hx
      subst hx
      exact he
  · exact (T.mono (S' := dft D v) (fun k hk => .inl (by unfold dft; simp only [List.mem_cons]; exact .inr hk))).trans t1 (fun k hk => .inl (by simp only [List.mem_cons, List.not_mem_nil, or_false] at hk; subst hk; unfold dft; simp))
  · rcases hat with e2 | ⟨k, e2, hk⟩
    · exact .inl (by rw [← e2]; exact hq)
    · rw [hq] at e2
      injection e2 with e2
      exact .inr (by omega)
theorem DEnd.back {w0 w w' : World} {D b : Nat} {v v' : Value} {m : Int} {L : List CM.E} (h : DEnd w w' D v v' b m L) (T : Touch [] w0 w) : DEnd w0 w' D v v' b m L := ⟨h.at_, (T.mono (by simp)).trans h.t (fun k hk => .inl hk), fun k hk => (h.own k hk).imp id (fun h1 => Nat.le_trans T.size h1)⟩
/-- what a Put leaves -/
def dputL (m : Int) (L : List CM.E) (e : CM.E) (now : Int) : List CM.E := if CM.dmay L e now = true then CM.dput m L e now else L
theorem dfindI_cases (L : List CM.E) (k : ByteArray) : (CM.dfind L k = none ∧ dfindI L k = -1) ∨ ∃ (i : Nat) (_ : i < L.length), CM.dfind L k = some i ∧ dfindI L k = (i : Int) := by
  unfold dfindI
  cases h : CM.dfind L k with
  | none => exact .inl ⟨rfl, rfl⟩
  | some i =>
    refine .inr ⟨i, ?_, rfl, rfl⟩
    unfold CM.dfind at h
    rw [List.findIdx?_eq_some_iff_getElem] at h
    exact h.1
theorem dwithout_le (L : List CM.E) (k : ByteArray) : (CM.dwithout L k).length ≤ L.length := by
  unfold CM.dwithout
  split
  · exact Nat.le_refl _
  · exact (List.eraseIdx_sublist _ _).length_le
set_option maxRecDepth 10000 in
set_option maxHeartbeats 4000000 in
theorem dput_any (w : World) (D : Nat) (v : Value) (b : Nat) (m : Int) (L : List CM.E) (h : DCa w D v b m L) (e : CM.E) (a : Option Addr) (cp : Nat) (now : Int) (hf : DOk e) (hrec : w.ownsRow 0 60 5 (.slice a e.recs.length cp) e.recs.length (flat e.recs)) (hl : L.length ≤ 999999) (hm : 1 ≤ m) :
    Calls Tryz.prog 20 #[.pointer (some ⟨D, 0, none⟩), .agg (entV e (.slice a e.recs.length cp)), .int .i64 now] w fun e1 w' => e1 = .returned (.bool (CM.dmay L e now)) ∧ ∃ v', DEnd w w' D v v' b m (dputL m L e now) := by
  have HMP := Lib.hid hm
  clear hm
  have T0 : Touch [] w (w.alloc (.cells (entV e (.slice a e.recs.length cp)) 31)) := (Touch.refl [] w).alloc _
  have hB0 := Blk.new w 31 (entV e (.slice a e.recs.length cp))
  obtain ⟨wA, hwA⟩ : ∃ wA, wA = w.alloc (.cells (entV e (.slice a e.recs.length cp)) 31) := ⟨_, rfl⟩
  have hsA : wA.heap.size = w.heap.size + 1 := by rw [hwA]; simp
  rw [← hwA] at T0 hB0
  have hE := h.lt
  have HE0 := Lib.hid (show w.heap.size ∉ dft D v from fun hm => by have := (hE _ hm).2; omega)
  have HH := Lib.hid (h.quiet T0)
  have HT0 := Lib.hid T0
  have HREC := Lib.hid (trow_touch hrec T0 (by simp))
  have HB0 := Lib.hid hB0
  have HWA := Lib.hid hwA
  have HSA := Lib.hid hsA
  have HF := Lib.hid (And.intro hf hl)
  have HCK := Lib.hid (fun W (T : Touch [] w W) => rccheck_any W e (.slice a e.recs.length cp) hf.1 (RecsAt.of_row (trow_touch hrec T (by simp))).1)
  have HKY := Lib.hid (fun W => rKey_any W e (.slice a e.recs.length cp) hf.1.1 hf.2.1 hf.2.2)
  obtain ⟨ck, hck⟩ : ∃ c, c = CM.check e := ⟨_, rfl⟩
  rw [← hck] at HCK
  obtain ⟨til, htil⟩ : ∃ c, c = e.til := ⟨_, rfl⟩
  have c5 : wA.cell? ⟨w.heap.size, 5, none⟩ = some (.int .i64 til) := by rw [htil]; exact hB0.cell 5
  have HM := Lib.hid (show (¬ (ck = 0 ∧ now ≤ til) → CM.dmay L e now = false ∧ dputL m L e now = L) ∧ (ck = 0 ∧ now ≤ til → CM.dmay L e now = !CM.drefused L e now) from by
    rw [hck, htil]
    refine ⟨fun hn => ?_, fun hy => ?_⟩
    · have h1 : CM.dmay L e now = false := by unfold CM.dmay; rw [decide_eq_false hn]; rfl
      exact ⟨h1, by unfold dputL; rw [h1]; rfl⟩
    · unfold CM.dmay; rw [decide_eq_true hy]; rfl)
  have HRB := Lib.hid (fun W (t : Touch [] wA W) => t.blk hB0 (by simp))
  clear h hrec hE hf hl T0 hB0 hsA hck htil
  have hEV : entV e (.slice a e.recs.length cp) = #[.int .i64 e.kind, .string e.name, .int .u16 e.type, .int .u16 e.cls, .slice a e.recs.length cp, .int .i64 e.til, .int .i64 e.rank, .int .i64 e.epoch, .int .i64 e.src] := rfl
  rw [hEV] at HWA ⊢
  have HEV := Lib.hid hEV
  clear hEV hwA
  go_enter Tryz.func20, Tryz.ntmps20
  go_upto_region 1 with (fail)
  rw [← HWA.out]
  go_wp2_with (refine wpList_load_row rfl 31 (.tmp 4) rfl w.heap.size rfl 31 (entV e (.slice a e.recs.length cp)) (0, 0) _ HB0.out Tryz.underlying31 rfl (by kernel_rfl) ?_)
  refine (HCK.out _ HT0.out).mono ?_
  rintro e1 w1 ⟨rfl, T1⟩
  have HT1 := Lib.hid T1
  have HB1 := Lib.hid (T1.blk HB0.out (by simp))
  have c5 := touch_cell T1 c5 (by simp)
  clear T1
  by_cases hck : ck ≠ 0
  · have HMM := Lib.hid (HM.out.1 (fun hh => hck hh.1))
    have hckb : (ck != 0) = true := by simpa using hck
    have hckb2 : (ck == 0) = false := by simpa using hck
    clear HM c5
    go_wp2_with fail
    go_ret
    refine ⟨by rw [HMM.out.1]; rfl, v, ?_⟩
    rw [HMM.out.2]
    exact ⟨HH.out.quiet HT1.out, (HT0.out.trans HT1.out (by simp)).mono (by simp), fun _ hk => .inl hk⟩
  obtain rfl : ck = 0 := by omega
  clear hck
  by_cases hti : til < now
  · have HMM := Lib.hid (HM.out.1 (fun hh => by omega))
    clear HM
    go_wp2_with fail
    go_ret
    refine ⟨by rw [HMM.out.1]; rfl, v, ?_⟩
    rw [HMM.out.2]
    exact ⟨HH.out.quiet HT1.out, (HT0.out.trans HT1.out (by simp)).mono (by simp), fun _ hk => .inl hk⟩
  have HMM := Lib.hid (HM.out.2 ⟨rfl, by omega⟩)
  have hti2 : now ≤ til := by omega
  clear HM hti
  go_wp2_with (refine wpList_load_row rfl 31 (.tmp 4) rfl w.heap.size rfl 31 (entV e (.slice a e.recs.length cp)) (0, 0) _ HB1.out Tryz.underlying31 rfl (by kernel_rfl) ?_)
  refine (HKY.out _).mono ?_
  rintro e1 w2 ⟨rfl, T2⟩
  have HFN := Lib.hid (dfind_any w2 D v b m L (HH.out.quiet (HT1.out.trans T2 (by simp))) (CM.key e))
  have HT2 := Lib.hid (HT1.out.trans T2 (by simp))
  obtain ⟨at_, hat⟩ : ∃ q, q = dfindI L (CM.key e) := ⟨_, rfl⟩
  rw [← hat] at HFN
  have HAT := Lib.hid hat
  clear T2 c5 HCK HKY hti2 hat
  go_wp2_with fail
  refine HFN.out.mono ?_
  rintro e1 w3 ⟨rfl, T3⟩
  have HT3 := Lib.hid (HT2.out.trans T3 (by simp))
  have HB3 := Lib.hid ((HT2.out.trans T3 (by simp)).blk HB0.out (by simp))
  have HD3 := Lib.hid (HH.out.quiet (HT2.out.trans T3 (by simp)))
  obtain ⟨rf, hrf⟩ : ∃ q, q = CM.drefused L e now := ⟨_, rfl⟩
  rw [← hrf] at HMM
  have HRF := Lib.hid hrf
  clear T3 hrf HFN
  go_upto_region 4 with (fail)
  go_cut [47] (fun s wx => s = .bool rf ∧ Touch [] w3 wx)
  case first =>
    rcases dfindI_cases L (CM.key e) with ⟨h1, h2⟩ | ⟨i, hi, h1, h2⟩
    · obtain rfl : at_ = -1 := by rw [HAT.out, h2]
      obtain rfl : rf = false := by
        rw [HRF.out]
        unfold CM.drefused
        rw [h1]
      clear h1 h2
      go_quiet (fail)
      go_wp2_with fail
      go_meet
      exact ⟨rfl, Touch.drewN [] w3 _⟩
    · obtain rfl : at_ = (i : Int) := by rw [HAT.out, h2]
      obtain ⟨a3, c3, rfl⟩ := HD3.out.shape
      obtain ⟨g, ra, rc, rfl, hrg, hrr⟩ := HD3.out.at_ i hi
      have hrfe : rf = decide (now ≤ L[i].til ∧ e.rank < L[i].rank) := by
        rw [HRF.out]
        unfold CM.drefused
        rw [h1]
        simp only [List.getElem?_eq_getElem hi]
      have d5 : w3.cell? ⟨g, i * 9 + 5, none⟩ = some (.int .i64 L[i].til) := hrg 5 _ rfl
      have d6 : w3.cell? ⟨g, i * 9 + 6, none⟩ = some (.int .i64 L[i].rank) := hrg 6 _ rfl
      have e6 : w3.cell? ⟨w.heap.size, 6, none⟩ = some (.int .i64 e.rank) := HB3.out.cell 6
      have c1 : w3.cell? ⟨D, 1, none⟩ = some (.slice (some ⟨g, 0, none⟩) L.length c3) := HD3.out.blk.cell 1
      obtain ⟨ti, hti⟩ : ∃ q, q = L[i].til := ⟨_, rfl⟩
      obtain ⟨rk, hrk⟩ : ∃ q, q = L[i].rank := ⟨_, rfl⟩
      rw [← hti] at d5 hrfe
      rw [← hrk] at d6 hrfe
      obtain ⟨er, her⟩ : ∃ q, q = e.rank := ⟨_, rfl⟩
      rw [← her] at e6 hrfe
      have hiL : (i : Int) < (L.length : Int) := by omega
      obtain ⟨nL, hnL⟩ : ∃ q, q = L.length := ⟨_, rfl⟩
      rw [← hnL] at hiL c1
      have HRE := Lib.hid hrfe
      have h0i : (0 : Int) ≤ (i : Int) := by omega
      clear hrg hrr hti hrk her hrfe h1 h2 hi hnL
      by_cases q1 : now ≤ ti
      · by_cases q2 : er < rk
        · have HX := Lib.hid (decide_eq_true (p := now ≤ ti ∧ er < rk) ⟨q1, q2⟩)
          go_quiet (fail)
          go_wp2_with fail
          go_meet
          exact ⟨by rw [HRE.out, HX.out], Touch.drewN [] w3 _⟩
        · have HX := Lib.hid (decide_eq_false (p := now ≤ ti ∧ er < rk) (fun hh => q2 hh.2))
          have q2' : rk ≤ er := by omega
          go_quiet (fail)
          go_wp2_with fail
          go_meet
          exact ⟨by rw [HRE.out, HX.out], Touch.drewN [] w3 _⟩
      · have HX := Lib.hid (decide_eq_false (p := now ≤ ti ∧ er < rk) (fun hh => q1 hh.1))
        have q1' : ti < now := by omega
        go_quiet (fail)
        go_wp2_with fail
        go_meet
        exact ⟨by rw [HRE.out, HX.out], Touch.drewN [] w3 _⟩
  case rest =>
  obtain ⟨rfl, T4⟩ := hcut
  obtain ⟨w4, hw4⟩ : ∃ q, q = wc := ⟨_, rfl⟩
  rw [← hw4] at T4 ⊢
  have HT4 := Lib.hid (HT3.out.trans T4 (by simp))
  have HB4 := Lib.hid (T4.blk HB3.out (by simp))
  have HD4 := Lib.hid (HD3.out.quiet T4)
  clear T4 hw4 HRF
  cases rf with
  | true =>
    have HX := Lib.hid (show CM.dmay L e now = false ∧ dputL m L e now = L from ⟨by rw [HMM.out]; rfl, by unfold dputL; rw [HMM.out]; rfl⟩)
    clear HMM
    go_wp2_with fail
    go_ret
    refine ⟨by rw [HX.out.1]; rfl, v, ?_⟩
    rw [HX.out.2]
    exact ⟨HD4.out, (HT0.out.trans HT4.out (by simp)).mono (by simp), fun _ hk => .inl hk⟩
  | false =>
    have HX := Lib.hid (show CM.dmay L e now = true ∧ dputL m L e now = CM.dput m L e now from ⟨by rw [HMM.out]; rfl, by unfold dputL; rw [HMM.out]; rfl⟩)
    obtain ⟨L1, hL1⟩ : ∃ q, q = CM.dwithout L (CM.key e) := ⟨_, rfl⟩
    have HL1 := Lib.hid (show L1.length ≤ L.length by rw [hL1]; exact dwithout_le _ _)
    have HLE := Lib.hid hL1
    have HE4 := Lib.hid (show DEnd wA w4 D v v b m L from ⟨HD4.out, HT4.out.mono (by simp), fun _ hk => .inl hk⟩)
    clear HMM hL1
    go_upto_if 49 with (fail)
    go_cut [48] (fun _ wx => ∃ v1, DEnd wA wx D v v1 b m L1)
    case first =>
      rcases dfindI_cases L (CM.key e) with ⟨h1, h2⟩ | ⟨i, hi, h1, h2⟩
      · obtain rfl : at_ = -1 := by rw [HAT.out, h2]
        have HQ := Lib.hid (show L1 = L by rw [HLE.out]; unfold CM.dwithout; rw [h1])
        clear h1 h2
        go_wp2_with fail
        go_meet
        exact ⟨v, by rw [HQ.out]; exact HE4.out⟩
      · obtain rfl : at_ = (i : Int) := by rw [HAT.out, h2]
        have HQ := Lib.hid (show L1 = L.eraseIdx i by rw [HLE.out]; unfold CM.dwithout; rw [h1])
        have HDR := Lib.hid (ddrop_any w4 D v b m L HD4.out i hi)
        have h0i : (0 : Int) ≤ (i : Int) := by omega
        clear h1 h2 hi
        go_wp2_with fail
        refine HDR.out.mono ?_
        rintro e1 w5 ⟨⟨r, rfl⟩, v5, h5, t5, f5⟩
        have HE5 := Lib.hid (HE4.out.trans (DEnd.of_drop h5 t5 f5))
        clear h5 t5 f5
        go_wp2_with fail
        go_meet
        exact ⟨v5, by rw [HQ.out]; exact HE5.out⟩
    case rest =>
    obtain ⟨v1, hE1⟩ := hcut
    obtain ⟨w5, hw5⟩ : ∃ q, q = wc := ⟨_, rfl⟩
    rw [← hw5] at hE1 ⊢
    have HB5 := Lib.hid (hE1.t.blk HB0.out HE0.out)
    have hrec5 : w5.ownsRow 0 60 5 (.slice a e.recs.length cp) e.recs.length (flat e.recs) := by
      refine trow_touch HREC.out hE1.t (fun k hk hm => ?_)
      rcases HREC.out.2 with ⟨e2, _⟩ | ⟨g, cap, cur, e2, _, hg, _⟩
      · rw [e2] at hk; cases hk
      · rw [e2] at hk
        injection hk with hk
        subst hk
        rcases HH.out.kind _ hm with ⟨cs, hb⟩ | ⟨cs, hb⟩
        · exact hb.ne_type (show Blk wA g 60 cur from hg) (by decide) rfl
        · exact hb.ne_type (show Blk wA g 60 cur from hg) (by decide) rfl
    have HREC5 := Lib.hid hrec5
    obtain ⟨P, hPe, hrow, hrec⟩ := hE1.at_.row
    obtain ⟨a1, c1, rfl⟩ := own_shape hrow
    have k1 : w5.cell? ⟨D, 1, none⟩ = some (.slice a1 P.length c1) := hE1.at_.blk.cell 1
    have hfr : w5.frozen? ⟨D, 1, none⟩ = false := hE1.at_.blk.frozen 1
    obtain ⟨n, hn⟩ : ∃ q, q = P.length := ⟨_, rfl⟩
    rw [← hn] at k1
    have HP := Lib.hid (And.intro hPe (And.intro hrec (And.intro hn hrow)))
    rw [← hn] at hrow
    have HROW := Lib.hid hrow
    have HE5 := Lib.hid hE1
    have HNL := Lib.hid (show n ≤ 999999 by have := congrArg List.length hPe; rw [List.length_map] at this; have := HL1.out; have := HF.out.2; omega)
    have hb5 := hE1.at_.blk.lt
    have hge := hE1.at_.ge
    have HBZ := Lib.hid (show b ≤ w5.heap.size by omega)
    clear hE1 hw5 hrec5 hPe hrow hrec hn hb5 hge
    obtain ⟨i1, hi1, hx1, hx2, hx3⟩ := info_parts infoCached
    have HI := Lib.hid (And.intro hi1 (And.intro hx1 (And.intro hx2 hx3)))
    have HDW := Lib.hid (show ∀ W, Touch (Value.slice a1 n c1).ownBlock.toList w5 W → W.cell? ⟨D, 1, none⟩ = some (.slice a1 n c1) ∧ W.frozen? ⟨D, 1, none⟩ = false from fun W T => by
      have hbD := blk_keep HE5.out.at_.blk HROW.out (by decide) T
      exact ⟨(hbD.cell 1).trans (congrArg (fun q => some (Value.slice a1 q c1)) HP.out.2.2.1.symm), hbD.frozen 1⟩)
    have HSW := Lib.hid (show ∀ W, Touch (dft D (.slice a1 n c1)) w5 W → W.cell? ⟨w.heap.size, 0, none⟩ = some (.int .i64 e.kind) ∧ W.cell? ⟨w.heap.size, 1, none⟩ = some (.string e.name) ∧ W.cell? ⟨w.heap.size, 2, none⟩ = some (.int .u16 e.type) ∧ W.cell? ⟨w.heap.size, 3, none⟩ = some (.int .u16 e.cls) ∧ W.cell? ⟨w.heap.size, 4, none⟩ = some (.slice a e.recs.length cp) ∧ W.cell? ⟨w.heap.size, 5, none⟩ = some (.int .i64 e.til) ∧ W.cell? ⟨w.heap.size, 6, none⟩ = some (.int .i64 e.rank) ∧ W.cell? ⟨w.heap.size, 7, none⟩ = some (.int .i64 e.epoch) ∧ W.cell? ⟨w.heap.size, 8, none⟩ = some (.int .i64 e.src) from fun W T => by
      have hbE : Blk W w.heap.size 31 (entV e (.slice a e.recs.length cp)) := T.blk HB5.out (fun hm => by
        unfold dft at hm
        rcases List.mem_cons.1 hm with h1 | hm
        · exact HE0.out (by rw [h1]; unfold dft; simp)
        · rcases HE5.out.own w.heap.size (by rw [← HP.out.2.2.1]; simpa using hm) with h1 | h1
          · exact HE0.out (by unfold dft; simp [h1])
          · have := HSA.out; omega)
      exact ⟨hbE.cell 0, hbE.cell 1, hbE.cell 2, hbE.cell 3, hbE.cell 4, hbE.cell 5, hbE.cell 6, hbE.cell 7, hbE.cell 8⟩)
    have hq0 := (HDW.out w5 (Touch.refl _ _)).1
    have hq1 : ∀ o, (w5.alloc o).cell? ⟨D, 1, none⟩ = some (.slice a1 n c1) := fun o => (HDW.out _ ((Touch.refl _ _).alloc _)).1
    have hq2 : w5.drew.cell? ⟨D, 1, none⟩ = some (.slice a1 n c1) := (HDW.out _ ((Touch.refl _ _).drew_)).1
    have hq3 : ∀ o, ((w5.alloc o).drew).cell? ⟨D, 1, none⟩ = some (.slice a1 n c1) := fun o => (HDW.out _ (((Touch.refl _ _).alloc _).drew_)).1
    have HLN := Lib.hid (show n + 1 ≤ maxLen ∧ (n + 1) * 88 ≤ 140737488355328 by have := HNL.out; unfold maxLen; omega)
    have HL2 := Lib.hid (show (L1 ++ [e]).length = n + 1 by rw [List.length_append, ← HP.out.1, List.length_map, ← HP.out.2.2.1]; rfl)
    obtain ⟨x0, x1, x2, x3, x4, x5, x6, x7, x8⟩ := HSW.out w5 (Touch.refl _ _)
    clear hi1 hx1 hx2 hx3 k1 hfr
    go_upto_region 8 with (fail)
    go_cut [59] (fun _ wx => ∃ v7, DEnd wA wx D v v7 b m (L1 ++ [e]))
    case first =>
      go_region_law
        ((refine step_append_lies _ (by rfl) _ _ _ (by rfl) b 31 i1 _ 9 88 Tryz.underlying42 HI.out.1 HI.out.2.1 HI.out.2.2.1 HI.out.2.2.2 rfl (by decide) (.slice a1 n c1) n (flatP P) (by rfl) ((HROW.out.alloc _).drew)
                ⟨w5.heap.size, 0, none⟩ 1 1 [.int .i64 e.kind, .string e.name, .int .u16 e.type, .int .u16 e.cls, .slice a e.recs.length cp, .int .i64 e.til, .int .i64 e.rank, .int .i64 e.epoch, .int .i64 e.src] (by rfl) (by rfl) (World.news_of_block (cs := #[.int .i64 e.kind, .string e.name, .int .u16 e.type, .int .u16 e.cls, .slice a e.recs.length cp, .int .i64 e.til, .int .i64 e.rank, .int .i64 e.epoch, .int .i64 e.src]) (t := 31) (fr := (0, 0)) (heap_alloc_new w5 _)) (fun u hu => ent_one e a e.recs.length cp u hu)
                (by decide) HLN.out.1 HLN.out.2 (by simp; exact Nat.le_succ_of_le HBZ.out) (w5.heap.size + 1) (by simp) ?_; intro gg cap w7 hown1 hgrow hat hlt; have tt : Touch (Value.slice a1 n c1).ownBlock.toList w5 w7 := (((Touch.refl _ w5).alloc _).drew_).trans (Touch.of_grown hgrow) (fun k hk => .inl hk); have td : Touch (dft D (.slice a1 n c1)) w5 w7 := tt.mono (fun k hk => .inl (by unfold dft; simp only [List.mem_cons]; exact .inr hk)); have u3 := (HDW.out w7 tt).2; have u4 := (HDW.out w7 tt).1))
      all_goals
        go_wp2_with fail
        go_meet
        refine ⟨_, HE5.out.trans (app_end (v2 := .slice (some ⟨gg, 0, none⟩) (n + 1) cap) HE5.out.at_ (by have := HL1.out; have := HF.out.2; omega) HP.out.1 HP.out.2.1 HP.out.2.2.2 HF.out.1 HREC5.out (by rw [← HP.out.2.2.1]; exact tt) (by rw [← HP.out.2.2.1]; exact hown1) (by
          rw [← HP.out.2.2.1]
          rcases hat with e2 | e2
          · exact .inl e2.symm
          · exact .inr ⟨gg, rfl, by rw [e2]; omega⟩))⟩
    case rest =>
    obtain ⟨v7, hE7⟩ := hcut
    obtain ⟨w8, hw8⟩ : ∃ q, q = wc := ⟨_, rfl⟩
    rw [← hw8] at hE7 ⊢
    obtain ⟨a7, ca7, rfl⟩ := hE7.at_.shape
    have HE7 := Lib.hid hE7
    rw [HL2.out] at HE7
    clear hE7 hw8 hq0 hq1 hq2 hq3 x0 x1 x2 x3 x4 x5 x6 x7 x8
    obtain ⟨L2, hL2⟩ : ∃ q, q = L1 ++ [e] := ⟨_, rfl⟩
    rw [← hL2] at HE7 HL2
    obtain ⟨L3, hL3⟩ : ∃ q, q = if m < (L2.length : Int) then CM.dexpire L2 now else L2 := ⟨_, rfl⟩
    obtain ⟨L4, hL4⟩ : ∃ q, q = if m < (L3.length : Int) then L3.eraseIdx 0 else L3 := ⟨_, rfl⟩
    have HL4 := Lib.hid (show dputL m L e now = L4 by
      rw [HX.out.2, hL4, hL3, hL2, HLE.out]
      rfl)
    have HL3 := Lib.hid (And.intro hL3 hL4)
    have k0 : w8.cell? ⟨D, 0, none⟩ = some (.int .i64 m) := HE7.out.at_.blk.cell 0
    have k1 : w8.cell? ⟨D, 1, none⟩ = some (.slice a7 (n + 1) ca7) := HE7.out.at_.blk.cell 1
    obtain ⟨n2, hn2⟩ : ∃ q, q = n + 1 := ⟨_, rfl⟩
    rw [← hn2] at k1 HL2
    clear hL2 hL3 hL4 hn2
    go_upto_region 9 with (fail)
    go_cut [72] (fun s wx => s = .bool (decide (m < (n2 : Int))) ∧ Touch [] w8 wx)
    case first =>
      by_cases hmn : m < (n2 : Int)
      · have HD := Lib.hid (decide_eq_true hmn)
        go_quiet (fail)
        go_wp2_with fail
        go_meet
        exact ⟨by first | rfl | rw [HD.out], Touch.drewN [] w8 _⟩
      · have HD := Lib.hid (decide_eq_false hmn)
        have hmn' : (n2 : Int) ≤ m := by omega
        go_quiet (fail)
        go_wp2_with fail
        go_meet
        exact ⟨by first | rfl | rw [HD.out], Touch.drewN [] w8 _⟩
    case rest =>
    obtain ⟨rfl, T9⟩ := hcut
    obtain ⟨w9, hw9⟩ : ∃ q, q = wc := ⟨_, rfl⟩
    rw [← hw9] at T9 ⊢
    have HE9 := Lib.hid (HE7.out.quiet T9)
    clear T9 hw9 k0 k1
    go_upto_if 72 with (fail)
    go_cut [73] (fun _ wx => ∃ v3, DEnd wA wx D v v3 b m L3)
    case first =>
      by_cases hmn : m < (n2 : Int)
      · have hd := decide_eq_true hmn
        have HQ := Lib.hid (show L3 = CM.dexpire L2 now by rw [HL3.out.1, HL2.out, if_pos hmn])
        have HX9 := Lib.hid (dexpire_any w9 D _ b m L2 HE9.out.at_ now)
        go_wp2_with fail
        refine HX9.out.mono ?_
        rintro e1 w10 ⟨nx, v10, rfl, _, h10⟩
        have HE10 := Lib.hid (HE9.out.trans h10)
        clear h10
        go_wp2_with fail
        go_meet
        exact ⟨v10, by rw [HQ.out]; exact HE10.out⟩
      · have hd := decide_eq_false hmn
        have HQ := Lib.hid (show L3 = L2 by rw [HL3.out.1, HL2.out, if_neg hmn])
        have hmn' : (n2 : Int) ≤ m := by omega
        go_wp2_with fail
        go_meet
        exact ⟨_, by rw [HQ.out]; exact HE9.out⟩
    case rest =>
    obtain ⟨v3, hE10⟩ := hcut
    obtain ⟨w10, hw10⟩ : ∃ q, q = wc := ⟨_, rfl⟩
    rw [← hw10] at hE10 ⊢
    obtain ⟨a10, c10, rfl⟩ := hE10.at_.shape
    have HE10 := Lib.hid hE10
    have k0 : w10.cell? ⟨D, 0, none⟩ = some (.int .i64 m) := hE10.at_.blk.cell 0
    have k1 : w10.cell? ⟨D, 1, none⟩ = some (.slice a10 L3.length c10) := hE10.at_.blk.cell 1
    obtain ⟨n3, hn3⟩ : ∃ q, q = L3.length := ⟨_, rfl⟩
    rw [← hn3] at k1
    have HN3 := Lib.hid hn3
    clear hE10 hw10 hn3
    go_upto_region 11 with (fail)
    go_cut [85] (fun s wx => s = .bool (decide (m < (n3 : Int))) ∧ Touch [] w10 wx)
    case first =>
      by_cases hmn : m < (n3 : Int)
      · have HD := Lib.hid (decide_eq_true hmn)
        go_quiet (fail)
        go_wp2_with fail
        go_meet
        exact ⟨by rw [HD.out], Touch.drewN [] w10 _⟩
      · have HD := Lib.hid (decide_eq_false hmn)
        have hmn' : (n3 : Int) ≤ m := by omega
        go_quiet (fail)
        go_wp2_with fail
        go_meet
        exact ⟨by rw [HD.out], Touch.drewN [] w10 _⟩
    case rest =>
    obtain ⟨rfl, T11⟩ := hcut
    obtain ⟨w11, hw11⟩ : ∃ q, q = wc := ⟨_, rfl⟩
    rw [← hw11] at T11 ⊢
    have HE11 := Lib.hid (HE10.out.quiet T11)
    clear T11 hw11 k0 k1
    by_cases hmn : m < (n3 : Int)
    · have hd := decide_eq_true hmn
      have HQ := Lib.hid (show L4 = L3.eraseIdx 0 by rw [HL3.out.2, ← HN3.out, if_pos hmn])
      have HDR := Lib.hid (ddrop_any w11 D _ b m L3 HE11.out.at_ 0 (by have := HMP.out; have := HN3.out; omega))
      go_wp2_with fail
      refine HDR.out.mono ?_
      rintro e1 w12 ⟨⟨r, rfl⟩, v12, h12, t12, f12⟩
      have HE12 := Lib.hid (HE11.out.trans (DEnd.of_drop h12 t12 f12))
      clear h12 t12 f12
      go_wp2_with fail
      go_ret
      exact ⟨by rw [HX.out.1]; rfl, v12, by rw [HL4.out, HQ.out]; exact HE12.out.back HT0.out⟩
    · have hd := decide_eq_false hmn
      have HQ := Lib.hid (show L4 = L3 by rw [HL3.out.2, ← HN3.out, if_neg hmn])
      have hmn' : (n3 : Int) ≤ m := by omega
      go_wp2_with fail
      go_ret
      exact ⟨by rw [HX.out.1]; rfl, _, by rw [HL4.out, HQ.out]; exact HE11.out.back HT0.out⟩
end Go.Proofs.YtibbfihnhlgkeaaGreat

/- The document's cache: tell, Get, Name. -/
namespace Go.Proofs.YtibbfihnhlgkeaaGreat
open Go.RowKit Go.Maps Go.WideMaps
open NM (Bs bs ofBs)
open CM (It C)

/-- what a call that tells an entry leaves -/
def DTell (w : World) (D : Nat) (v : Value) (b : Nat) (m : Int) (L : List CM.E) (r : Option CM.E × List CM.E) (e : Ending) (w' : World) : Prop :=
  (r.1 = none ∧ e = .returned (.tuple #[.agg zeroE, .bool false]) ∧ DEnd w w' D v v b m L) ∨
  ∃ (x : CM.E) (ra : Option Addr) (rc : Nat) (v' : Value), r.1 = some x ∧ e = .returned (.tuple #[.agg (entV x (.slice ra x.recs.length rc)), .bool true]) ∧ x ∈ L ∧ w'.ownsRow 0 60 5 (.slice ra x.recs.length rc) x.recs.length (flat x.recs) ∧ DEnd w w' D v v' b m r.2
theorem DCa.one {w w' : World} {D b R0 : Nat} {v : Value} {m : Int} {L : List CM.E} (h : DCa w D v b m L) {cs : Array Value} (hb : Blk w R0 31 cs) (hn : R0 ∉ dft D v) (T : Touch [R0] w w') : DCa w' D v b m L := by
  refine h.touch T (fun hm => hn ?_) (fun k hk hm => hn ?_) (fun k cs' hk hm => ?_)
  · simp only [List.mem_cons, List.not_mem_nil, or_false] at hm
    unfold dft; simp [hm]
  · simp only [List.mem_cons, List.not_mem_nil, or_false] at hm
    unfold dft; simp [← hm, hk]
  · simp only [List.mem_cons, List.not_mem_nil, or_false] at hm
    subst hm
    exact hk.ne_type hb (by decide) rfl
set_option maxRecDepth 10000 in
set_option maxHeartbeats 4000000 in
theorem dtell_any (w : World) (D : Nat) (v : Value) (b : Nat) (m : Int) (L : List CM.E) (h : DCa w D v b m L) (k : ByteArray) (now : Int) :
    Calls Tryz.prog 28 #[.pointer (some ⟨D, 0, none⟩), .string k, .int .i64 now] w (DTell w D v b m L (CM.dtell L k now)) := by
  have T0 : Touch [] w (w.alloc (.cells zeroE 31)) := (Touch.refl [] w).alloc _
  have hB0 := Blk.new w 31 zeroE
  obtain ⟨wA, hwA⟩ : ∃ wA, wA = w.alloc (.cells zeroE 31) := ⟨_, rfl⟩
  have hsA : wA.heap.size = w.heap.size + 1 := by rw [hwA]; simp
  rw [← hwA] at T0 hB0
  have hE := h.lt
  obtain ⟨R0, hR0⟩ : ∃ q, q = w.heap.size := ⟨_, rfl⟩
  rw [← hR0] at hB0 hsA
  have HE0 := Lib.hid (show R0 ∉ dft D v from fun hm => by have := (hE _ hm).2; omega)
  have HR0 := Lib.hid hR0
  have HH := Lib.hid (h.quiet T0)
  have HT0 := Lib.hid T0
  have HB0 := Lib.hid hB0
  have HWA := Lib.hid hwA
  have HSA := Lib.hid hsA
  have HFN := Lib.hid (dfind_any wA D v b m L (h.quiet T0) k)
  obtain ⟨at_, hat⟩ : ∃ q, q = dfindI L k := ⟨_, rfl⟩
  rw [← hat] at HFN
  have HAT := Lib.hid hat
  obtain ⟨Z, hZ⟩ : ∃ Z, Z = CM.dtell L k now := ⟨_, rfl⟩
  rw [← hZ]
  have HZ := Lib.hid hZ
  have HPOST := Lib.hid (show ∀ e w', DTell w D v b m L Z e w' → DTell w D v b m L Z e w' from fun _ _ h => h)
  clear h hE T0 hB0 hsA hat hZ hwA
  go_enter Tryz.func28, Tryz.ntmps28
  go_upto_region 1 with (fail)
  rw [← HWA.out, ← HR0.out]
  clear hR0
  go_wp2_with fail
  refine HFN.out.mono ?_
  rintro e1 w3 ⟨rfl, T3⟩
  have HT3 := Lib.hid T3
  have HB3 := Lib.hid (T3.blk HB0.out (by simp))
  have HD3 := Lib.hid (HH.out.quiet T3)
  clear T3 HFN
  -- is there one, and not stale?
  obtain ⟨no, hno⟩ : ∃ q : Bool, q = Z.1.isNone := ⟨_, rfl⟩
  have HNO := Lib.hid hno
  clear hno
  go_upto_region 2 with (fail)
  go_cut [26] (fun s wx => s = .bool no ∧ Touch [] w3 wx)
  case first =>
    rcases dfindI_cases L k with ⟨h1, h2⟩ | ⟨i, hi, h1, h2⟩
    · obtain rfl : at_ = -1 := by rw [HAT.out, h2]
      obtain rfl : no = true := by
        rw [HNO.out, HZ.out]
        unfold CM.dtell
        rw [h1]
        rfl
      clear h1 h2
      go_wp2_with fail
      go_meet
      exact ⟨rfl, Touch.refl _ _⟩
    · obtain rfl : at_ = (i : Int) := by rw [HAT.out, h2]
      obtain ⟨a3, c3, rfl⟩ := HD3.out.shape
      obtain ⟨g, ra, rc, rfl, hrg, hrr⟩ := HD3.out.at_ i hi
      have hnoe : no = decide (L[i].til < now) := by
        rw [HNO.out, HZ.out]
        unfold CM.dtell
        rw [h1]
        simp only [List.getElem?_eq_getElem hi]
        by_cases q : L[i].til < now
        · rw [if_pos q, decide_eq_true q]; rfl
        · rw [if_neg q, decide_eq_false q]; rfl
      have d5 : w3.cell? ⟨g, i * 9 + 5, none⟩ = some (.int .i64 L[i].til) := hrg 5 _ rfl
      have c1 : w3.cell? ⟨D, 1, none⟩ = some (.slice (some ⟨g, 0, none⟩) L.length c3) := HD3.out.blk.cell 1
      obtain ⟨ti, hti⟩ : ∃ q, q = L[i].til := ⟨_, rfl⟩
      rw [← hti] at d5 hnoe
      have hiL : (i : Int) < (L.length : Int) := by omega
      obtain ⟨nL, hnL⟩ : ∃ q, q = L.length := ⟨_, rfl⟩
      rw [← hnL] at hiL c1
      have HRE := Lib.hid hnoe
      have h0i : (0 : Int) ≤ (i : Int) := by omega
      clear hrg hrr hti hnoe h1 h2 hi hnL
      by_cases q1 : ti < now
      · have HX := Lib.hid (decide_eq_true q1)
        go_wp2_with fail
        go_meet
        exact ⟨by rw [HRE.out, HX.out], Touch.refl _ _⟩
      · have HX := Lib.hid (decide_eq_false q1)
        have q1' : now ≤ ti := by omega
        have HI0 := Lib.hid (decide_eq_false (show ¬ (i : Int) < 0 by omega))
        go_wp2_with fail
        go_meet
        exact ⟨by rw [HRE.out, HX.out]; first | rfl | rw [HI0.out], Touch.refl _ _⟩
  case rest =>
  obtain ⟨rfl, T4⟩ := hcut
  obtain ⟨w4, hw4⟩ : ∃ q, q = wc := ⟨_, rfl⟩
  rw [← hw4] at T4 ⊢
  have HT4 := Lib.hid (HT3.out.trans T4 (by simp))
  have HB4 := Lib.hid (T4.blk HB3.out (by simp))
  have HD4 := Lib.hid (HD3.out.quiet T4)
  clear T4 hw4
  cases no with
  | true =>
    have hn1 : Z.1 = none := by have := HNO.out; cases h : Z.1 with
      | none => rfl
      | some q => rw [h] at this; cases this
    have HN1 := Lib.hid hn1
    clear hn1
    go_wp2_with (refine wpList_store_rowTo rfl 31 (.tmp 6) (.tmp 27) rfl rfl R0 zeroE rfl rfl 31 zeroE HB4.out (by kernel_rfl) rfl (entV_cells ⟨0, ⟨#[]⟩, 0, 0, [], 0, 0, 0, 0⟩ none 0 0) ?_)
    refine bodyPost_ret (results_pair rfl _ _ R0 31 zeroE (0, 0) _ rfl (HB4.out.row _) Tryz.underlying31 rfl (by kernel_rfl)) rfl ?_
    left
    have t : Touch [R0] w4 (w4.setRow R0 zeroE) := (Touch.refl _ w4).row _ _ (.inl (by simp))
    refine ⟨HN1.out, rfl, ?_, ?_, fun _ hk => .inl hk⟩
    · exact HD4.out.one HB4.out HE0.out t
    · exact ((HT0.out.trans HT4.out (by simp)).mono (by simp)).trans t (fun k hk => .inr (by simp only [List.mem_cons, List.not_mem_nil, or_false] at hk; rw [hk, HR0.out]; exact Nat.le_refl _))
  | false =>
    rcases dfindI_cases L k with ⟨h1, h2⟩ | ⟨i, hi, h1, h2⟩
    · have h3 := HNO.out
      rw [HZ.out] at h3
      unfold CM.dtell at h3
      rw [h1] at h3
      cases h3
    obtain rfl : at_ = (i : Int) := by rw [HAT.out, h2]
    have hZe : Z.1 = some L[i] ∧ Z.2 = L.eraseIdx i ++ [L[i]] := by
      have h3 := HNO.out
      rw [HZ.out] at h3 ⊢
      unfold CM.dtell at h3 ⊢
      rw [h1] at h3 ⊢
      simp only [List.getElem?_eq_getElem hi] at h3 ⊢
      by_cases q : L[i].til < now
      · rw [if_pos q] at h3; cases h3
      · rw [if_neg q]; exact ⟨rfl, rfl⟩
    have hmem : L[i] ∈ L := List.getElem_mem hi
    obtain ⟨a3, c3, rfl⟩ := HD4.out.shape
    obtain ⟨g, ra, rc, rfl, hrg, hrr⟩ := HD4.out.at_ i hi
    have c1 : w4.cell? ⟨D, 1, none⟩ = some (.slice (some ⟨g, 0, none⟩) L.length c3) := HD4.out.blk.cell 1
    have hok := HD4.out.ok _ hmem
    have HDR := Lib.hid (fun W (T : Touch [] w4 W) => ddrop_any W D _ b m L (HD4.out.quiet T) i hi)
    obtain ⟨x, hx⟩ : ∃ q, q = L[i] := ⟨_, rfl⟩
    rw [← hx] at hZe hmem hrg hrr hok
    have HZE := Lib.hid hZe
    have HRG := Lib.hid hrg
    have HXO := Lib.hid hok
    have HMEM := Lib.hid hmem
    have HRR := Lib.hid hrr
    have hiL : (i : Int) < (L.length : Int) := by omega
    have h0i : (0 : Int) ≤ (i : Int) := by omega
    have HEL := Lib.hid (show (L.eraseIdx i).length ≤ 999999 by have := HD4.out.len; rw [List.length_eraseIdx_of_lt hi]; omega)
    obtain ⟨L1, hL1⟩ : ∃ q, q = L.eraseIdx i := ⟨_, rfl⟩
    rw [← hL1] at HZE HDR HEL
    have HL1 := HEL
    obtain ⟨nL, hnL⟩ : ∃ q, q = L.length := ⟨_, rfl⟩
    rw [← hnL] at c1 hiL
    have HNLL := Lib.hid hnL
    obtain ⟨E1, hE1⟩ : ∃ q, q = w4.heap.size := ⟨_, rfl⟩
    have HBE := Lib.hid (Blk.new w4 31 zeroE)
    have HEE := Lib.hid hE1
    obtain ⟨w4b, hw4b⟩ : ∃ W, W = (w4.alloc (.cells zeroE 31)).setRow w4.heap.size (entV x (.slice ra x.recs.length rc)) := ⟨_, rfl⟩
    have t4b : Touch [] w4 w4b := by rw [hw4b]; exact ((Touch.refl [] w4).alloc _).row _ _ (.inr (Nat.le_refl _))
    have HW4b := Lib.hid hw4b
    have HBE4b := Lib.hid (show Blk w4b E1 31 (entV x (.slice ra x.recs.length rc)) by rw [hw4b, hE1]; exact HBE.out.row _)
    have HT4b := Lib.hid t4b
    clear h1 h2 hi hZe hmem hrg hrr hok hx hL1 hnL hw4b t4b hE1
    go_upto_region 5 with (first
      | (refine wpList_load_mid rfl 31 (.tmp 33) rfl g (i * 9) rfl _ _ HRG.out Tryz.underlying31 rfl (by kernel_rfl) ?_)
      | (refine wpList_store_rowTo rfl 31 (.tmp 9) (.tmp 34) rfl rfl w4.heap.size (entV x (.slice ra x.recs.length rc)) rfl rfl 31 zeroE HBE.out (by kernel_rfl) rfl (entV_cells _ _ _ _) ?_; rw [← HW4b.out]))
    rw [← HEE.out]
    go_wp2_with fail
    refine (HDR.out w4b HT4b.out).mono ?_
    rintro e1 w5 ⟨⟨r, rfl⟩, v5, h5, t5, f5⟩
    have hD4 : DEnd w w4b D (.slice (some ⟨g, 0, none⟩) L.length c3) (.slice (some ⟨g, 0, none⟩) L.length c3) b m L := ⟨HD4.out.quiet HT4b.out, (HT0.out.trans (HT4.out.trans HT4b.out (by simp)) (by simp)).mono (by simp), fun _ hk => .inl hk⟩
    have hE5 := hD4.trans (DEnd.of_drop h5 t5 f5)
    have HB5 := Lib.hid (t5.blk HBE4b.out (by
      simp only [List.mem_cons, List.not_mem_nil, or_false]
      intro hm
      have := HD4.out.blk.lt
      have := HEE.out
      omega))
    have HREC5 := Lib.hid (trow_touch (trow_touch HRR.out HT4b.out (by simp)) t5 (fun k hk hm => by
      simp only [List.mem_cons, List.not_mem_nil, or_false] at hm
      subst hm
      have hh := trow_touch HRR.out HT4b.out (by simp)
      rcases hh.2 with ⟨e2, _⟩ | ⟨g2, cap, cur, e2, _, hg, _⟩
      · rw [e2] at hk; cases hk
      · rw [e2] at hk
        injection hk with hk
        subst hk
        exact (HT4b.out.blk HD4.out.blk (by simp)).ne_type (show Blk w4b g2 60 cur from hg) (by decide) rfl))
    have HF5 := Lib.hid f5
    have HR5 := Lib.hid (t5.blk (HT4b.out.blk HB4.out (by simp)) (by
      simp only [List.mem_cons, List.not_mem_nil, or_false]
      intro hm
      exact HE0.out (by unfold dft; simp [hm])))
    have HNV := Lib.hid (show E1 ∉ dft D v5 from fun hm => by
      unfold dft at hm
      rcases List.mem_cons.1 hm with h1 | h1
      · have := HD4.out.blk.lt
        have := HEE.out
        omega
      · have h2 := f5 E1 (by simpa using h1)
        have := HBE4b.out.lt
        omega)
    obtain ⟨P, hPe, hrow, hrec⟩ := hE5.at_.row
    obtain ⟨a1, c1, rfl⟩ := own_shape hrow
    obtain ⟨n, hn⟩ : ∃ q, q = P.length := ⟨_, rfl⟩
    have HNE := Lib.hid (show E1 ∉ dft D (.slice a1 n c1) by rw [hn]; exact HNV.out)
    have HNR := Lib.hid (show R0 ∉ dft D (.slice a1 n c1) by
      rw [hn]
      intro hm
      unfold dft at hm
      rcases List.mem_cons.1 hm with h1 | h1
      · exact HE0.out (by unfold dft; simp [h1])
      · have h2 := HF5.out R0 (by simpa using h1)
        have := HB4.out.lt
        have := HT4b.out.size
        omega)
    have HP := Lib.hid (And.intro hPe (And.intro hrec (And.intro hn hrow)))
    rw [← hn] at hrow
    have HROW := Lib.hid hrow
    have HE5 := Lib.hid hE5
    have HNL := Lib.hid (show n ≤ 999999 by have := congrArg List.length hPe; rw [List.length_map] at this; have := HL1.out; omega)
    have hb5 := hE5.at_.blk.lt
    have hge := hE5.at_.ge
    have HBZ := Lib.hid (show b ≤ w5.heap.size by omega)
    have k1 : True := trivial
    have hfr : True := trivial
    clear hE5 hD4 h5 t5 f5 hPe hrow hrec hn hb5 hge
    obtain ⟨i1, hi1, hx1, hx2, hx3⟩ := info_parts infoCached
    have HI := Lib.hid (And.intro hi1 (And.intro hx1 (And.intro hx2 hx3)))
    have HDW := Lib.hid (show ∀ W, Touch (Value.slice a1 n c1).ownBlock.toList w5 W → W.cell? ⟨D, 1, none⟩ = some (.slice a1 n c1) ∧ W.frozen? ⟨D, 1, none⟩ = false from fun W T => by
      have hbD := blk_keep HE5.out.at_.blk HROW.out (by decide) T
      exact ⟨(hbD.cell 1).trans (congrArg (fun q => some (Value.slice a1 q c1)) HP.out.2.2.1.symm), hbD.frozen 1⟩)
    have HSW := Lib.hid (show ∀ W, Touch (dft D (.slice a1 n c1)) w5 W → W.cell? ⟨E1, 0, none⟩ = some (.int .i64 x.kind) ∧ W.cell? ⟨E1, 1, none⟩ = some (.string x.name) ∧ W.cell? ⟨E1, 2, none⟩ = some (.int .u16 x.type) ∧ W.cell? ⟨E1, 3, none⟩ = some (.int .u16 x.cls) ∧ W.cell? ⟨E1, 4, none⟩ = some (.slice ra x.recs.length rc) ∧ W.cell? ⟨E1, 5, none⟩ = some (.int .i64 x.til) ∧ W.cell? ⟨E1, 6, none⟩ = some (.int .i64 x.rank) ∧ W.cell? ⟨E1, 7, none⟩ = some (.int .i64 x.epoch) ∧ W.cell? ⟨E1, 8, none⟩ = some (.int .i64 x.src) from fun W T => by
      have hbE : Blk W E1 31 (entV x (.slice ra x.recs.length rc)) := T.blk HB5.out HNE.out
      exact ⟨hbE.cell 0, hbE.cell 1, hbE.cell 2, hbE.cell 3, hbE.cell 4, hbE.cell 5, hbE.cell 6, hbE.cell 7, hbE.cell 8⟩)
    have hq0 := (HDW.out w5 (Touch.refl _ _)).1
    have hq1 : ∀ o, (w5.alloc o).cell? ⟨D, 1, none⟩ = some (.slice a1 n c1) := fun o => (HDW.out _ ((Touch.refl _ _).alloc _)).1
    have hq2 : w5.drew.cell? ⟨D, 1, none⟩ = some (.slice a1 n c1) := (HDW.out _ ((Touch.refl _ _).drew_)).1
    have hq3 : ∀ o, ((w5.alloc o).drew).cell? ⟨D, 1, none⟩ = some (.slice a1 n c1) := fun o => (HDW.out _ (((Touch.refl _ _).alloc _).drew_)).1
    have HLN := Lib.hid (show n + 1 ≤ maxLen ∧ (n + 1) * 88 ≤ 140737488355328 by have := HNL.out; unfold maxLen; omega)
    have HL2 := Lib.hid (show (L1 ++ [x]).length = n + 1 by rw [List.length_append, ← HP.out.1, List.length_map, ← HP.out.2.2.1]; rfl)
    obtain ⟨x0, x1, x2, x3, x4, x5, x6, x7, x8⟩ := HSW.out w5 (Touch.refl _ _)
    clear hi1 hx1 hx2 hx3 k1 hfr
    go_upto_region 6 with (fail)
    go_cut [44] (fun _ wx => ∃ v7, DEnd w wx D (.slice (some ⟨g, 0, none⟩) L.length c3) v7 b m (L1 ++ [x]) ∧ Blk wx E1 31 (entV x (.slice ra x.recs.length rc)) ∧ Blk wx R0 31 zeroE ∧ R0 ∉ dft D v7 ∧ wx.ownsRow 0 60 5 (.slice ra x.recs.length rc) x.recs.length (flat x.recs))
    case first =>
      go_region_law
        ((refine step_append_lies _ (by rfl) _ _ _ (by rfl) b 31 i1 _ 9 88 Tryz.underlying42 HI.out.1 HI.out.2.1 HI.out.2.2.1 HI.out.2.2.2 rfl (by decide) (.slice a1 n c1) n (flatP P) (by rfl) ((HROW.out.alloc _).drew)
                ⟨w5.heap.size, 0, none⟩ 1 1 [.int .i64 x.kind, .string x.name, .int .u16 x.type, .int .u16 x.cls, .slice ra x.recs.length rc, .int .i64 x.til, .int .i64 x.rank, .int .i64 x.epoch, .int .i64 x.src] (by rfl) (by rfl) (World.news_of_block (cs := #[.int .i64 x.kind, .string x.name, .int .u16 x.type, .int .u16 x.cls, .slice ra x.recs.length rc, .int .i64 x.til, .int .i64 x.rank, .int .i64 x.epoch, .int .i64 x.src]) (t := 31) (fr := (0, 0)) (heap_alloc_new w5 _)) (fun u hu => ent_one x ra x.recs.length rc u hu)
                (by decide) HLN.out.1 HLN.out.2 (by simp; exact Nat.le_succ_of_le HBZ.out) (w5.heap.size + 1) (by simp) ?_; intro gg cap w7 hown1 hgrow hat hlt; have tt : Touch (Value.slice a1 n c1).ownBlock.toList w5 w7 := (((Touch.refl _ w5).alloc _).drew_).trans (Touch.of_grown hgrow) (fun k hk => .inl hk); have td : Touch (dft D (.slice a1 n c1)) w5 w7 := tt.mono (fun k hk => .inl (by unfold dft; simp only [List.mem_cons]; exact .inr hk)); have u3 := (HDW.out w7 tt).2; have u4 := (HDW.out w7 tt).1))
      all_goals
        go_wp2_with fail
        go_meet
        have hT8 : Touch (dft D (.slice a1 n c1)) w5 (w7.setCell ⟨D, 1, none⟩ (.slice (some ⟨gg, 0, none⟩) (n + 1) cap)) := td.setCell _ _ (.inl (by unfold dft; simp))
        refine ⟨_, HE5.out.trans (app_end (v2 := .slice (some ⟨gg, 0, none⟩) (n + 1) cap) HE5.out.at_ HL1.out HP.out.1 HP.out.2.1 HP.out.2.2.2 HXO.out HREC5.out (by rw [← HP.out.2.2.1]; exact tt) (by rw [← HP.out.2.2.1]; exact hown1) (by
          rw [← HP.out.2.2.1]
          rcases hat with e2 | e2
          · exact .inl e2.symm
          · exact .inr ⟨gg, rfl, by rw [e2]; omega⟩)), hT8.blk HB5.out HNE.out, hT8.blk HR5.out HNR.out, fun hm => ?_, trow_touch HREC5.out hT8 (fun k hk hm => ?_)⟩
        · unfold dft at hm
          rcases List.mem_cons.1 hm with h1 | h1
          · exact HNR.out (by unfold dft; simp [h1])
          · have h2 : R0 = gg := (Option.some.inj (show some gg = some R0 from Option.mem_toList.1 h1)).symm
            rcases hat with e2 | e2
            · exact HNR.out (by unfold dft; rw [e2, h2]; simp)
            · have := HR5.out.lt
              omega
        · rcases HREC5.out.2 with ⟨e2, _⟩ | ⟨g2, cap2, cur, e2, _, hg, _⟩
          · rw [e2] at hk; cases hk
          · rw [e2] at hk
            injection hk with hk
            subst hk
            rcases HE5.out.at_.kind g2 (by rw [← HP.out.2.2.1]; exact hm) with ⟨cs, hb⟩ | ⟨cs, hb⟩
            · exact hb.ne_type (show Blk w5 g2 60 cur from hg) (by decide) rfl
            · exact hb.ne_type (show Blk w5 g2 60 cur from hg) (by decide) rfl
    case rest =>
    obtain ⟨v7, hE7, hb8, hr8, hn8, hrec8⟩ := hcut
    obtain ⟨w8, hw8⟩ : ∃ q, q = wc := ⟨_, rfl⟩
    rw [← hw8] at hE7 hb8 hr8 hrec8 ⊢
    have HB8 := Lib.hid hb8
    have HR8 := Lib.hid hr8
    have HE7 := Lib.hid (And.intro hE7 (And.intro hn8 hrec8))
    clear hE7 hw8 hb8 hr8 hn8 hrec8 hq0 hq1 hq2 hq3 x0 x1 x2 x3 x4 x5 x6 x7 x8
    go_wp2_with (first
      | (refine wpList_load_row rfl 31 (.tmp 9) rfl E1 rfl 31 (entV x (.slice ra x.recs.length rc)) (0, 0) _ HB8.out Tryz.underlying31 rfl (by kernel_rfl) ?_)
      | (refine wpList_store_rowTo rfl 31 (.tmp 6) (.tmp 48) rfl rfl R0 (entV x (.slice ra x.recs.length rc)) rfl rfl 31 zeroE HR8.out (by kernel_rfl) rfl (entV_cells _ _ _ _) ?_))
    refine bodyPost_ret (results_pair rfl _ _ R0 31 (entV x (.slice ra x.recs.length rc)) (0, 0) _ rfl (HR8.out.row _) Tryz.underlying31 rfl (by kernel_rfl)) rfl ?_
    right
    have t : Touch [R0] w8 (w8.setRow R0 (entV x (.slice ra x.recs.length rc))) := (Touch.refl _ w8).row _ _ (.inl (by simp))
    obtain ⟨hE7, hn8, hrec8⟩ := HE7.out
    refine ⟨x, ra, rc, v7, HZE.out.1, rfl, HMEM.out, trow_touch hrec8 t (fun k hk hm => ?_), ?_⟩
    · simp only [List.mem_cons, List.not_mem_nil, or_false] at hm
      subst hm
      rcases hrec8.2 with ⟨e2, _⟩ | ⟨g2, cap2, cur, e2, _, hg, _⟩
      · rw [e2] at hk; cases hk
      · rw [e2] at hk
        injection hk with hk
        subst hk
        exact HR8.out.ne_type (show Blk w8 g2 60 cur from hg) (by decide) rfl
    · rw [HZE.out.2]
      exact ⟨hE7.at_.one HR8.out hn8 t, hE7.t.trans t (fun k hk => .inr (by simp only [List.mem_cons, List.not_mem_nil, or_false] at hk; rw [hk, HR0.out]; exact Nat.le_refl _)), hE7.own⟩
end Go.Proofs.YtibbfihnhlgkeaaGreat

/- The document's cache: Get, Name. -/
namespace Go.Proofs.YtibbfihnhlgkeaaGreat
open Go.RowKit Go.Maps Go.WideMaps
open NM (Bs bs ofBs)
open CM (It C)

set_option maxRecDepth 10000 in
set_option maxHeartbeats 1000000 in
theorem dget_any (w : World) (D : Nat) (v : Value) (b : Nat) (m : Int) (L : List CM.E) (h : DCa w D v b m L) (n : ByteArray) (hn : n.size ≤ 1099511627776) (t c : Nat) (now : Int) :
    Calls Tryz.prog 9 #[.pointer (some ⟨D, 0, none⟩), .string n, .int .u16 (t : Int), .int .u16 (c : Int), .int .i64 now] w (DTell w D v b m L (CM.dtell L (ofBs (CM.keyB 0 (bs n) (t : Int) (c : Int))) now)) := by
  have HK := Lib.hid (fun W => rkey_any W false 0 rfl n hn t t c rfl)
  obtain ⟨k, hk⟩ : ∃ k, k = ofBs (CM.keyB 0 (bs n) (t : Int) (c : Int)) := ⟨_, rfl⟩
  rw [← hk] at HK ⊢
  have T0 : Touch [] w (w.alloc (.cells zeroE 31)) := (Touch.refl [] w).alloc _
  have HT := Lib.hid (fun W (t : Touch [] (w.alloc (.cells zeroE 31)) W) => dtell_any W D v b m L ((h.quiet T0).quiet t) k now)
  have HB0 := Lib.hid (Blk.new w 31 zeroE)
  have HH := Lib.hid h
  obtain ⟨Z, hZ⟩ : ∃ Z, Z = CM.dtell L k now := ⟨_, rfl⟩
  rw [← hZ] at HT ⊢
  have HT0 := Lib.hid T0
  clear hk hn h T0 hZ
  go_enter Tryz.func9, Tryz.ntmps9
  go_upto_region 1 with (fail)
  obtain ⟨w0, hw0⟩ : ∃ w0, w0 = w.alloc (.cells zeroE 31) := ⟨_, rfl⟩
  obtain ⟨R, hR⟩ : ∃ R, R = w.heap.size := ⟨_, rfl⟩
  have HR := Lib.hid hR
  have HW0 := Lib.hid hw0
  rw [← HW0.out, ← HR.out]
  rw [← hw0] at HT HB0 HT0
  rw [← hR] at HB0
  clear hw0 hR
  go_wp2_with fail
  refine (HK.out _).mono ?_
  rintro e1 w1 ⟨rfl, T1⟩
  have HT1 := Lib.hid T1
  clear T1
  go_wp2_with fail
  refine (HT.out w1 HT1.out).mono ?_
  rintro e1 w2 HE
  have hb1 := HT1.out.blk HB0.out (by simp)
  have hRn : R ∉ dft D v := fun hm => by have := (HH.out.lt R hm).2; have := HR.out; omega
  have hlt1 := hb1.lt
  rcases HE with ⟨h1, rfl, hE⟩ | ⟨x, ra, rc, v', h1, rfl, hx, hrow, hE⟩
  · have HB2 := Lib.hid (hE.t.blk hb1 hRn)
    have HX := Lib.hid (And.intro h1 (And.intro hE hRn))
    clear h1 hE hb1 hRn hlt1
    go_wp2_with (refine wpList_store_rowTo rfl 31 (.tmp 10) (.tmp 19) rfl rfl R zeroE rfl rfl 31 zeroE HB2.out (by kernel_rfl) rfl (entV_cells ⟨0, ⟨#[]⟩, 0, 0, [], 0, 0, 0, 0⟩ none 0 0) ?_)
    refine bodyPost_ret (results_pair rfl _ _ R 31 zeroE (0, 0) _ rfl (HB2.out.row _) Tryz.underlying31 rfl (by kernel_rfl)) rfl ?_
    left
    have t : Touch [R] w2 (w2.setRow R zeroE) := (Touch.refl _ w2).row _ _ (.inl (by simp))
    refine ⟨HX.out.1, rfl, HX.out.2.1.at_.one HB2.out HX.out.2.2 t, ?_, fun _ hk => .inl hk⟩
    have t0 : Touch (dft D v) w w1 := (HT0.out.trans HT1.out (by simp)).mono (by simp)
    exact (t0.trans HX.out.2.1.t (fun k hk => .inl hk)).trans t (fun k hk => .inr (by simp at hk; rw [hk, HR.out]; exact Nat.le_refl _))
  · have HB2 := Lib.hid (hE.t.blk hb1 hRn)
    have hRn2 : R ∉ dft D v' := fun hm => by
      unfold dft at hm
      rcases List.mem_cons.1 hm with h3 | h3
      · exact hRn (by unfold dft; simp [h3])
      · rcases hE.own R (by simpa using h3) with h4 | h4
        · exact hRn (by unfold dft; simp [h4])
        · omega
    have HX := Lib.hid (And.intro h1 (And.intro hx (And.intro hrow (And.intro hE hRn2))))
    clear h1 hx hrow hE hb1 hRn hRn2 hlt1
    go_wp2_with (refine wpList_store_rowTo rfl 31 (.tmp 10) (.tmp 19) rfl rfl R (entV x (.slice ra x.recs.length rc)) rfl rfl 31 zeroE HB2.out (by kernel_rfl) rfl (entV_cells _ _ _ _) ?_)
    refine bodyPost_ret (results_pair rfl _ _ R 31 (entV x (.slice ra x.recs.length rc)) (0, 0) _ rfl (HB2.out.row _) Tryz.underlying31 rfl (by kernel_rfl)) rfl ?_
    right
    have t : Touch [R] w2 (w2.setRow R (entV x (.slice ra x.recs.length rc))) := (Touch.refl _ w2).row _ _ (.inl (by simp))
    have t0 : Touch [] w w1 := HT0.out.trans HT1.out (by simp)
    obtain ⟨h1, hx, hrow, hE, hRn2⟩ := HX.out
    refine ⟨x, ra, rc, v', h1, rfl, hx, trow_touch hrow t (fun k hk hm => ?_), hE.at_.one HB2.out hRn2 t, ?_, fun k hk => (hE.own k hk).imp id (fun h4 => Nat.le_trans t0.size h4)⟩
    · simp only [List.mem_cons, List.not_mem_nil, or_false] at hm
      subst hm
      rcases hrow.2 with ⟨e2, _⟩ | ⟨g2, cap2, cur, e2, _, hg, _⟩
      · rw [e2] at hk; cases hk
      · rw [e2] at hk
        injection hk with hk
        subst hk
        exact HB2.out.ne_type (show Blk w2 g2 60 cur from hg) (by decide) rfl
    · exact (((t0.mono (S' := dft D v) (by simp)).trans hE.t (fun k hk => .inl hk))).trans t (fun k hk => .inr (by simp at hk; rw [hk, HR.out]; exact Nat.le_refl _))
set_option maxRecDepth 10000 in
set_option maxHeartbeats 1000000 in
theorem dname_any (w : World) (D : Nat) (v : Value) (b : Nat) (m : Int) (L : List CM.E) (h : DCa w D v b m L) (n : ByteArray) (hn : n.size ≤ 1099511627776) (c : Nat) (now : Int) :
    Calls Tryz.prog 12 #[.pointer (some ⟨D, 0, none⟩), .string n, .int .u16 (c : Int), .int .i64 now] w (DTell w D v b m L (CM.dtell L (ofBs (CM.keyB 1 (bs n) ((0 : Nat) : Int) (c : Int))) now)) := by
  have HK := Lib.hid (fun W => rkey_any W true 1 rfl n hn 0 0 c rfl)
  obtain ⟨k, hk⟩ : ∃ k, k = ofBs (CM.keyB 1 (bs n) ((0 : Nat) : Int) (c : Int)) := ⟨_, rfl⟩
  rw [← hk] at HK ⊢
  have T0 : Touch [] w (w.alloc (.cells zeroE 31)) := (Touch.refl [] w).alloc _
  have HT := Lib.hid (fun W (t : Touch [] (w.alloc (.cells zeroE 31)) W) => dtell_any W D v b m L ((h.quiet T0).quiet t) k now)
  have HB0 := Lib.hid (Blk.new w 31 zeroE)
  have HH := Lib.hid h
  obtain ⟨Z, hZ⟩ : ∃ Z, Z = CM.dtell L k now := ⟨_, rfl⟩
  rw [← hZ] at HT ⊢
  have HT0 := Lib.hid T0
  clear hk hn h T0 hZ
  go_enter Tryz.func12, Tryz.ntmps12
  go_upto_region 1 with (fail)
  obtain ⟨w0, hw0⟩ : ∃ w0, w0 = w.alloc (.cells zeroE 31) := ⟨_, rfl⟩
  obtain ⟨R, hR⟩ : ∃ R, R = w.heap.size := ⟨_, rfl⟩
  have HR := Lib.hid hR
  have HW0 := Lib.hid hw0
  rw [← HW0.out, ← HR.out]
  rw [← hw0] at HT HB0 HT0
  rw [← hR] at HB0
  clear hw0 hR
  go_wp2_with fail
  refine (HK.out _).mono ?_
  rintro e1 w1 ⟨rfl, T1⟩
  have HT1 := Lib.hid T1
  clear T1
  go_wp2_with fail
  refine (HT.out w1 HT1.out).mono ?_
  rintro e1 w2 HE
  have hb1 := HT1.out.blk HB0.out (by simp)
  have hRn : R ∉ dft D v := fun hm => by have := (HH.out.lt R hm).2; have := HR.out; omega
  have hlt1 := hb1.lt
  rcases HE with ⟨h1, rfl, hE⟩ | ⟨x, ra, rc, v', h1, rfl, hx, hrow, hE⟩
  · have HB2 := Lib.hid (hE.t.blk hb1 hRn)
    have HX := Lib.hid (And.intro h1 (And.intro hE hRn))
    clear h1 hE hb1 hRn hlt1
    go_wp2_with (refine wpList_store_rowTo rfl 31 (.tmp 8) (.tmp 16) rfl rfl R zeroE rfl rfl 31 zeroE HB2.out (by kernel_rfl) rfl (entV_cells ⟨0, ⟨#[]⟩, 0, 0, [], 0, 0, 0, 0⟩ none 0 0) ?_)
    refine bodyPost_ret (results_pair rfl _ _ R 31 zeroE (0, 0) _ rfl (HB2.out.row _) Tryz.underlying31 rfl (by kernel_rfl)) rfl ?_
    left
    have t : Touch [R] w2 (w2.setRow R zeroE) := (Touch.refl _ w2).row _ _ (.inl (by simp))
    refine ⟨HX.out.1, rfl, HX.out.2.1.at_.one HB2.out HX.out.2.2 t, ?_, fun _ hk => .inl hk⟩
    have t0 : Touch (dft D v) w w1 := (HT0.out.trans HT1.out (by simp)).mono (by simp)
    exact (t0.trans HX.out.2.1.t (fun k hk => .inl hk)).trans t (fun k hk => .inr (by simp at hk; rw [hk, HR.out]; exact Nat.le_refl _))
  · have HB2 := Lib.hid (hE.t.blk hb1 hRn)
    have hRn2 : R ∉ dft D v' := fun hm => by
      unfold dft at hm
      rcases List.mem_cons.1 hm with h3 | h3
      · exact hRn (by unfold dft; simp [h3])
      · rcases hE.own R (by simpa using h3) with h4 | h4
        · exact hRn (by unfold dft; simp [h4])
        · omega
    have HX := Lib.hid (And.intro h1 (And.intro hx (And.intro hrow (And.intro hE hRn2))))
    clear h1 hx hrow hE hb1 hRn hRn2 hlt1
    go_wp2_with (refine wpList_store_rowTo rfl 31 (.tmp 8) (.tmp 16) rfl rfl R (entV x (.slice ra x.recs.length rc)) rfl rfl 31 zeroE HB2.out (by kernel_rfl) rfl (entV_cells _ _ _ _) ?_)
    refine bodyPost_ret (results_pair rfl _ _ R 31 (entV x (.slice ra x.recs.length rc)) (0, 0) _ rfl (HB2.out.row _) Tryz.underlying31 rfl (by kernel_rfl)) rfl ?_
    right
    have t : Touch [R] w2 (w2.setRow R (entV x (.slice ra x.recs.length rc))) := (Touch.refl _ w2).row _ _ (.inl (by simp))
    have t0 : Touch [] w w1 := HT0.out.trans HT1.out (by simp)
    obtain ⟨h1, hx, hrow, hE, hRn2⟩ := HX.out
    refine ⟨x, ra, rc, v', h1, rfl, hx, trow_touch hrow t (fun k hk hm => ?_), hE.at_.one HB2.out hRn2 t, ?_, fun k hk => (hE.own k hk).imp id (fun h4 => Nat.le_trans t0.size h4)⟩
    · simp only [List.mem_cons, List.not_mem_nil, or_false] at hm
      subst hm
      rcases hrow.2 with ⟨e2, _⟩ | ⟨g2, cap2, cur, e2, _, hg, _⟩
      · rw [e2] at hk; cases hk
      · rw [e2] at hk
        injection hk with hk
        subst hk
        exact HB2.out.ne_type (show Blk w2 g2 60 cur from hg) (by decide) rfl
    · exact (((t0.mono (S' := dft D v) (by simp)).trans hE.t (fun k hk => .inl hk))).trans t (fun k hk => .inr (by simp at hk; rw [hk, HR.out]; exact Nat.le_refl _))
end Go.Proofs.YtibbfihnhlgkeaaGreat

/- The document's cache: Next; SameAll; the cache's Next. -/
namespace Go.Proofs.YtibbfihnhlgkeaaGreat
open Go.RowKit Go.Maps Go.WideMaps
open NM (Bs bs ofBs)
open CM (It C)

/-- when the next one is stale -/
structure NextI (L : List CM.E) (i : Nat) (t : Int) : Prop where
  none : i = 0 → t = 0
  some : 0 < i → (∃ e ∈ L.take i, e.til = t) ∧ ∀ e ∈ L.take i, t ≤ e.til
theorem NextI.step {L : List CM.E} {i : Nat} {t : Int} (h : NextI L i t) (hi : i < L.length) : NextI L (i + 1) (if i = 0 ∨ L[i].til < t then L[i].til else t) := by
  refine ⟨fun h0 => by omega, fun _ => ?_⟩
  rw [List.take_succ_eq_append_getElem hi]
  split
  · rename_i hc
    refine ⟨⟨L[i], List.mem_append_right _ (List.mem_singleton.2 rfl), rfl⟩, fun e he => ?_⟩
    rcases List.mem_append.1 he with he | he
    · by_cases h0 : i = 0
      · subst h0; simp at he
      · have := (h.some (by omega)).2 e he
        rcases hc with hc | hc
        · exact absurd hc h0
        · omega
    · simp only [List.mem_cons, List.not_mem_nil, or_false] at he
      subst he
      exact Int.le_refl _
  · rename_i hc
    have h0 : 0 < i := by omega
    obtain ⟨⟨x, hx, hxt⟩, hall⟩ := h.some h0
    refine ⟨⟨x, List.mem_append_left _ hx, hxt⟩, fun e he => ?_⟩
    rcases List.mem_append.1 he with he | he
    · exact hall e he
    · simp only [List.mem_cons, List.not_mem_nil, or_false] at he
      subst he
      omega
set_option maxRecDepth 10000 in
set_option maxHeartbeats 2000000 in
theorem dnext_any (w : World) (D : Nat) (v : Value) (b : Nat) (m : Int) (L : List CM.E) (h : DCa w D v b m L) :
    Calls Tryz.prog 22 #[.pointer (some ⟨D, 0, none⟩)] w fun e w' => ∃ t, e = .returned (.tuple #[.int .i64 t, .bool (decide (0 < L.length))]) ∧ NextI L L.length t ∧ Touch [] w w' := by
  obtain ⟨a, cp, rfl⟩ := h.shape
  obtain ⟨n, hn⟩ : ∃ n, n = L.length := ⟨_, rfl⟩
  rw [← hn] at h ⊢
  have HH := Lib.hid h
  have HN := Lib.hid (And.intro hn h.len)
  clear h hn
  go_enter Tryz.func22, Tryz.ntmps22
  go_wp2_with fail
  go_loopw [4, 5] (fun s4 s5 wr => ∃ (i : Nat) (t : Int), s4 = .int .i64 t ∧ s5 = .int .i64 (i : Int) ∧ i ≤ n ∧ NextI L i t ∧ Touch [] w wr) (fun _ s5 _ => n - (intOf s5).toNat)
  case atStart => exact ⟨0, 0, rfl, rfl, Nat.zero_le _, ⟨fun _ => rfl, fun h => by omega⟩, Touch.refl _ _⟩
  case round =>
    obtain ⟨i, t, rfl, rfl, hi, hI, hT⟩ := hrel
    obtain ⟨wo, rfl⟩ : ∃ wo, wo = wr := ⟨_, rfl⟩
    have h := HH.out.quiet hT
    have c1 : wo.cell? ⟨D, 1, none⟩ = some (.slice a n cp) := h.blk.cell 1
    have HS := Lib.hid (And.intro hi (And.intro hI hT))
    clear hi hI hT
    by_cases hlt : i < n
    · have hltI : (i : Int) < (n : Int) := by omega
      have hiL : i < L.length := by have := HN.out.1; omega
      obtain ⟨g, ra, rc, rfl, hrg, hrr⟩ := h.at_ i hiL
      have c5 : wo.cell? ⟨g, i * 9 + 5, none⟩ = some (.int .i64 L[i].til) := hrg 5 _ rfl
      have hst := HS.out.2.1.step hiL
      obtain ⟨ti, hti⟩ : ∃ q, q = L[i].til := ⟨_, rfl⟩
      rw [← hti] at c5 hst
      obtain ⟨bb, hbb⟩ : ∃ q : Bool, q = decide (i = 0 ∨ ti < t) := ⟨_, rfl⟩
      have HBB := Lib.hid hbb
      have HST := Lib.hid (show NextI L (i + 1) (if bb = true then ti else t) by
        have e : (if bb = true then ti else t) = if i = 0 ∨ ti < t then ti else t := by
          rw [hbb]
          by_cases q : i = 0 ∨ ti < t
          · rw [if_pos q, decide_eq_true q]; rfl
          · rw [if_neg q, decide_eq_false q]; rfl
        rw [e]; exact hst)
      have HLT := Lib.hid hlt
      have HC1 := Lib.hid (And.intro c1 c5)
      have hwr : wrap64 ((i : Int) + 1) = (i : Int) + 1 := IntWalk.wrap64_in _ (by have := HN.out; omega)
      clear hrg hrr hst hti hbb h hlt hiL
      go_upto_region 5 with (fail)
      go_cut [28] from 15 to 36 (fun s wx => s = .bool bb ∧ wx = wo)
      case first =>
        by_cases h0 : i = 0
        · subst h0
          have HX := Lib.hid (decide_eq_true (p := (0 : Nat) = 0 ∨ ti < t) (.inl rfl))
          go_wp2_with fail
          go_meet
          exact ⟨by rw [HBB.out, HX.out], rfl⟩
        · have h0b : ((i : Int) == 0) = false := by simp; omega
          by_cases h1 : ti < t
          · have HX := Lib.hid (decide_eq_true (p := i = 0 ∨ ti < t) (.inr h1))
            go_wp2_with fail
            go_meet
            exact ⟨by rw [HBB.out, HX.out], rfl⟩
          · have HX := Lib.hid (decide_eq_false (p := i = 0 ∨ ti < t) (fun hh => hh.elim h0 h1))
            have h1' : t ≤ ti := by omega
            go_wp2_with fail
            go_meet
            exact ⟨by rw [HBB.out, HX.out], rfl⟩
      case rest =>
        obtain ⟨rfl, hw⟩ := hcut
        obtain rfl := hw.symm
        clear HBB
        cases bb with
        | true =>
          go_wp2_with fail
          go_roundw
          case rel => exact ⟨i + 1, ti, rfl, by first | rfl | (rw [hwr]; rfl), HLT.out, HST.out, HS.out.2.2⟩
          case measure => exact lt_sub_of (x := i + 1) (i := i) (by first | rfl | (rw [hwr]; rfl)) rfl (by have := HLT.out; omega)
        | false =>
          go_wp2_with fail
          go_roundw
          case rel => exact ⟨i + 1, t, rfl, by first | rfl | (rw [hwr]; rfl), HLT.out, HST.out, HS.out.2.2⟩
          case measure => exact lt_sub_of (x := i + 1) (i := i) (by first | rfl | (rw [hwr]; rfl)) rfl (by have := HLT.out; omega)
    · have hge : (n : Int) ≤ (i : Int) := by omega
      have hin : i = n := by have := HS.out.1; omega
      subst hin
      have HX := Lib.hid HS.out.2.1
      clear hlt h hge
      have T0 := Touch.refl [] wo
      by_cases h0 : 0 < i
      · have h0I : (0 : Int) < (i : Int) := by omega
        have HD := Lib.hid (decide_eq_true h0)
        clear h0
        go_wp2_with fail
        go_quiet (fail)
        go_wp2_with fail
        go_returns
        exact ⟨t, by rw [HD.out]; rfl, HX.out, HS.out.2.2.trans (Touch.drewN [] wo _) (by simp)⟩
      · have h0I : (i : Int) ≤ 0 := by omega
        have HD := Lib.hid (decide_eq_false h0)
        clear h0
        go_wp2_with fail
        go_quiet (fail)
        go_wp2_with fail
        go_returns
        exact ⟨t, by rw [HD.out]; rfl, HX.out, HS.out.2.2.trans (Touch.drewN [] wo _) (by simp)⟩
theorem onext (w0 w : World) (B : Nat) (c : C) (h : OC w0 w B c) : Calls Tryz.prog 21 #[.pointer (some ⟨B, 0, none⟩)] w fun e w' => ∃ t, e = .returned (.tuple #[.int .i64 t, .bool (decide (0 < c.h.length))]) ∧ (c.h = [] → t = 0) ∧ (∀ x r, c.h = x :: r → t = x.e.til) ∧ Touch [] w w' := by
  have HL := Lib.hid (olen w0 w B c h)
  obtain ⟨mo, v, hk, hf⟩ := h.ex
  cases hh : c.h with
  | nil =>
    rw [hh] at HL
    clear hk hf h
    go_enter Tryz.func21, Tryz.ntmps21
    go_wp2_with fail
    refine HL.out.mono ?_
    rintro e w1 ⟨rfl, rfl⟩
    clear hh HL
    go_wp2_with fail
    go_returns
    exact ⟨0, rfl, fun _ => rfl, fun x r e => (by cases e), Touch.refl _ _⟩
  | cons x r =>
    rw [hh] at hk HL
    have c2 : w.cell? ⟨B, 2, none⟩ = some v := hk.hp.blk.cell 2
    obtain ⟨G, cap, rfl⟩ : ∃ G cap, v = .slice (some ⟨G, 0, none⟩) (x :: r).length cap := by
      rcases hk.hp.shape with ⟨_, e⟩ | h
      · cases e
      · exact h
    have hrow := hk.hp.row.2.1
    have d0 : w.cell? ⟨G, 0, none⟩ = some (ptr x) := hrow.cell 0 (by simp)
    have d5 : w.cell? ⟨x.g, 5, none⟩ = some (.int .i64 x.e.til) := (hk.hp.items 0 (by simp)).cell 5
    unfold ptr at d0
    obtain ⟨g, hg⟩ : ∃ g, g = x.g := ⟨_, rfl⟩
    rw [← hg] at d0 d5
    obtain ⟨til, htil⟩ : ∃ g, g = x.e.til := ⟨_, rfl⟩
    rw [← htil] at d5
    have HT := Lib.hid htil
    obtain ⟨n, hn⟩ : ∃ n, n = (x :: r).length := ⟨_, rfl⟩
    rw [← hn] at c2 HL ⊢
    have hn1 : (0 : Int) < (n : Int) := by rw [hn]; simp
    have hn0 : ((n : Int) == 0) = false := by simp; omega
    have HD := Lib.hid (decide_eq_true (show 0 < n by omega))
    clear hk hf h hrow hg htil hn hh
    go_enter Tryz.func21, Tryz.ntmps21
    go_wp2_with fail
    refine HL.out.mono ?_
    rintro e w1 ⟨rfl, rfl⟩
    go_wp2_with fail
    go_returns
    exact ⟨til, by rw [HD.out]; rfl, fun e => (by cases e), fun y r' e => (by injection e with e1 _; rw [← e1]; exact HT.out), Touch.refl _ _⟩
/-- a row of entries that is read -/
def REnt (w : World) (a : Option Addr) (L : List CM.E) : Prop := ∀ i (hi : i < L.length), ∃ g ra rc, a = some ⟨g, 0, none⟩ ∧ (∀ j u, (entV L[i] (.slice ra L[i].recs.length rc)).toList[j]? = some u → w.cell? ⟨g, i * 9 + j, none⟩ = some u) ∧ w.ownsRow 0 60 5 (.slice ra L[i].recs.length rc) L[i].recs.length (flat L[i].recs)
theorem REnt.touch {w w' : World} {a : Option Addr} {L : List CM.E} (h : REnt w a L) (T : Touch [] w w') : REnt w' a L := fun i hi => by
  obtain ⟨g, ra, rc, h1, h2, h3⟩ := h i hi
  exact ⟨g, ra, rc, h1, fun j u hu => touch_cell T (h2 j u hu) (by simp), trow_touch h3 T (by simp)⟩
theorem DCa.rent {w : World} {D b : Nat} {a : Option Addr} {n cp : Nat} {m : Int} {L : List CM.E} (h : DCa w D (.slice a n cp) b m L) : REnt w a L := fun i hi => by
  obtain ⟨g, ra, rc, h1, h2, h3⟩ := h.at_ i hi
  exact ⟨g, ra, rc, h1, h2, h3⟩
set_option maxRecDepth 10000 in
set_option maxHeartbeats 2000000 in
theorem sameall_any (w : World) (a1 a2 : Option Addr) (c1 c2 : Nat) (L : List CM.E) (h1 : REnt w a1 L) (h2 : REnt w a2 L) (hl : L.length ≤ 1000000) (hr : ∀ e ∈ L, e.recs.length ≤ 1000000) :
    Calls Tryz.prog 17 #[.slice a1 L.length c1, .slice a2 L.length c2] w fun e w' => e = .returned (.bool true) ∧ Touch [] w w' := by
  have H1 := Lib.hid h1
  have H2 := Lib.hid h2
  obtain ⟨n, hn⟩ : ∃ n, n = L.length := ⟨_, rfl⟩
  rw [← hn] at hl ⊢
  have HN := Lib.hid (And.intro hn (And.intro hl hr))
  clear h1 h2 hn hl hr
  go_enter Tryz.func17, Tryz.ntmps17
  go_wp2_with fail
  go_loopw [5, 6] (fun s5 s6 wr => ∃ i : Nat, s5 = .int .i64 (i : Int) ∧ i ≤ n ∧ Touch [] w wr) (fun s5 _ _ => n - (intOf s5).toNat)
  case atStart => exact ⟨0, rfl, Nat.zero_le _, Touch.refl _ _⟩
  case round =>
    obtain ⟨i, rfl, hi, hT⟩ := hrel
    obtain ⟨wo, rfl⟩ : ∃ wo, wo = wr := ⟨_, rfl⟩
    have HT := Lib.hid hT
    by_cases hlt : i < n
    · have hltI : (i : Int) < (n : Int) := by omega
      have hiL : i < L.length := by have := HN.out.1; omega
      obtain ⟨g1, ra1, rc1, rfl, hc1, hr1⟩ := (H1.out.touch hT) i hiL
      obtain ⟨g2, ra2, rc2, rfl, hc2, hr2⟩ := (H2.out.touch hT) i hiL
      have hrl := HN.out.2.2 L[i] (List.getElem_mem hiL)
      obtain ⟨x, hx⟩ : ∃ q, q = L[i] := ⟨_, rfl⟩
      rw [← hx] at hc1 hc2 hr1 hr2 hrl
      have HSA := Lib.hid (fun W (t : Touch [] wo W) => same_any W x x (.slice ra1 x.recs.length rc1) (.slice ra2 x.recs.length rc2) ((RecsAt.of_row hr1).1.touch0 t) ((RecsAt.of_row hr2).1.touch0 t) hrl)
      have y0 : wo.cell? ⟨g1, i * 9, none⟩ = some (.int .i64 x.kind) := hc1 0 _ rfl
      have y1 : wo.cell? ⟨g1, i * 9 + 1, none⟩ = some (.string x.name) := hc1 1 _ rfl
      have y2 : wo.cell? ⟨g1, i * 9 + 2, none⟩ = some (.int .u16 x.type) := hc1 2 _ rfl
      have y3 : wo.cell? ⟨g1, i * 9 + 3, none⟩ = some (.int .u16 x.cls) := hc1 3 _ rfl
      have y4 : wo.cell? ⟨g1, i * 9 + 4, none⟩ = some (.slice ra1 x.recs.length rc1) := hc1 4 _ rfl
      have y5 : wo.cell? ⟨g1, i * 9 + 5, none⟩ = some (.int .i64 x.til) := hc1 5 _ rfl
      have y6 : wo.cell? ⟨g1, i * 9 + 6, none⟩ = some (.int .i64 x.rank) := hc1 6 _ rfl
      have y7 : wo.cell? ⟨g1, i * 9 + 7, none⟩ = some (.int .i64 x.epoch) := hc1 7 _ rfl
      have y8 : wo.cell? ⟨g1, i * 9 + 8, none⟩ = some (.int .i64 x.src) := hc1 8 _ rfl
      have z0 : wo.cell? ⟨g2, i * 9, none⟩ = some (.int .i64 x.kind) := hc2 0 _ rfl
      have z1 : wo.cell? ⟨g2, i * 9 + 1, none⟩ = some (.string x.name) := hc2 1 _ rfl
      have z2 : wo.cell? ⟨g2, i * 9 + 2, none⟩ = some (.int .u16 x.type) := hc2 2 _ rfl
      have z3 : wo.cell? ⟨g2, i * 9 + 3, none⟩ = some (.int .u16 x.cls) := hc2 3 _ rfl
      have z4 : wo.cell? ⟨g2, i * 9 + 4, none⟩ = some (.slice ra2 x.recs.length rc2) := hc2 4 _ rfl
      have z5 : wo.cell? ⟨g2, i * 9 + 5, none⟩ = some (.int .i64 x.til) := hc2 5 _ rfl
      have z6 : wo.cell? ⟨g2, i * 9 + 6, none⟩ = some (.int .i64 x.rank) := hc2 6 _ rfl
      have z7 : wo.cell? ⟨g2, i * 9 + 7, none⟩ = some (.int .i64 x.epoch) := hc2 7 _ rfl
      have z8 : wo.cell? ⟨g2, i * 9 + 8, none⟩ = some (.int .i64 x.src) := hc2 8 _ rfl
      have HLT := Lib.hid hlt
      have hwr : wrap64 ((i : Int) + 1) = (i : Int) + 1 := IntWalk.wrap64_in _ (by have := HN.out; omega)
      clear hc1 hc2 hr1 hr2 hrl hx hlt hiL hi hT
      go_upto_region 6 with (fail)
      go_cut [6] from 12 to 28 (fun s wq => s = .bool true ∧ Touch [] w wq)
      case first =>
        go_still_tail 8, (by kernel_rfl)
        change wpList _ _ _ _ _ wo.drew
        clear y0 y1 y2 y3 y4 y5 y6 y7 y8 z0 z1 z2 z3 z4 z5 z6 z7 z8
        go_wp2_with fail
        refine (HSA.out _ (Touch.refl [] wo).drew_).mono ?_
        rintro e wq ⟨⟨rs, rfl, hrs⟩, tq⟩
        obtain rfl : rs = true := hrs.2 rfl
        have HTQ := Lib.hid (HT.out.trans ((Touch.refl [] wo).drew_.trans tq (by simp)) (by simp))
        clear tq hrs
        go_wp2_with fail
        go_meet
        exact ⟨rfl, HTQ.out⟩
      case rest =>
        obtain ⟨rfl, hT9⟩ := hcut
        obtain ⟨w9, hw9⟩ : ∃ w9, w9 = wc := ⟨_, rfl⟩
        rw [← hw9] at hT9 ⊢
        have HT9 := Lib.hid hT9
        clear hT9 hw9 y0 y1 y2 y3 y4 y5 y6 y7 y8 z0 z1 z2 z3 z4 z5 z6 z7 z8 HSA
        go_wp2_with fail
        go_roundw
        case rel => exact ⟨i + 1, by first | rfl | (rw [hwr]; rfl), HLT.out, HT9.out⟩
        case measure => exact lt_sub_of (x := i + 1) (i := i) (by first | rfl | (rw [hwr]; rfl)) rfl (by have := HLT.out; omega)
    · have hge : (n : Int) ≤ (i : Int) := by omega
      clear hlt hi hT
      go_wp2_with fail
      go_ret
      exact ⟨rfl, HT.out⟩
end Go.Proofs.YtibbfihnhlgkeaaGreat

/- Both caches side by side. -/
namespace Go.Proofs.YtibbfihnhlgkeaaGreat
open Go.RowKit Go.Maps Go.WideMaps
open NM (Bs bs ofBs)
open CM (It C)

/-- both caches, and blocks of the law's own -/
structure Q (w W : World) (B : Nat) (c : C) (D : Nat) (m : Int) (L : List CM.E) (Os : List (Nat × Array Value)) (Xs : List (Nat × CM.E × Value)) : Prop where
  oc : OC w W B c
  t : Touch [] w W
  dc : ∃ v, DCa W D v w.heap.size m L ∧ ∀ x ∈ Xs, x.1 ∉ dft D v
  os : ∀ x ∈ Os, Blk W x.1 33 x.2
  xs : ∀ x ∈ Xs, Blk W x.1 31 (entV x.2.1 x.2.2) ∧ W.ownsRow 0 60 5 x.2.2 x.2.1.recs.length (flat x.2.1.recs)
section
variable {w W W' : World} {B : Nat} {c c' : C} {D : Nat} {m : Int} {L L' : List CM.E} {Os : List (Nat × Array Value)} {Xs : List (Nat × CM.E × Value)}
theorem Q.quiet (h : Q w W B c D m L Os Xs) (T : Touch [] W W') : Q w W' B c D m L Os Xs := by
  obtain ⟨v, h1, h2⟩ := h.dc
  exact ⟨h.oc.quiet T, h.t.trans T (by simp), ⟨v, h1.quiet T, h2⟩, fun x hx => T.blk (h.os x hx) (by simp), fun x hx => ⟨T.blk (h.xs x hx).1 (by simp), trow_touch (h.xs x hx).2 T (by simp)⟩⟩
theorem Q.code (h : Q w W B c D m L Os Xs) (S : CStep w W W') (O : OC w W' B c') : Q w W' B c' D m L Os Xs := by
  obtain ⟨v, h1, h2⟩ := h.dc
  exact ⟨O, S.touch h.t, ⟨v, h1.cstep S, h2⟩, fun x hx => S.blk (h.os x hx) (by decide) (by decide) (by decide), fun x hx => ⟨S.blk (h.xs x hx).1 (by decide) (by decide) (by decide), S.row (h.xs x hx).2 (by decide) (by decide) (by decide)⟩⟩
theorem Q.doc (h : Q w W B c D m L Os Xs) {v v' : Value} (h1 : DCa W D v w.heap.size m L) (h2 : ∀ x ∈ Xs, x.1 ∉ dft D v) (E : DEnd W W' D v v' w.heap.size m L') : Q w W' B c D m L' Os Xs := by
  refine ⟨h.oc.dstep E.t h1.kind, h.t.trans E.t (fun k hk => .inr (h1.lt k hk).1), ⟨v', E.at_, fun x hx hm => ?_⟩, fun x hx => E.t.blk (h.os x hx) (fun hm => ?_), fun x hx => ⟨E.t.blk (h.xs x hx).1 (h2 x hx), ?_⟩⟩
  · unfold dft at hm
    rcases List.mem_cons.1 hm with h3 | h3
    · exact h2 x hx (by unfold dft; simp [h3])
    · rcases E.own x.1 (by simpa using h3) with h4 | h4
      · exact h2 x hx (by unfold dft; simp [h4])
      · have := (h.xs x hx).1.lt
        omega
  · rcases h1.kind _ hm with ⟨cs, hb⟩ | ⟨cs, hb⟩
    · exact hb.ne_type (h.os x hx) (by decide) rfl
    · exact hb.ne_type (h.os x hx) (by decide) rfl
  · refine trow_touch (h.xs x hx).2 E.t (fun k hk hm => ?_)
    rcases (h.xs x hx).2.2 with ⟨e2, _⟩ | ⟨g2, cap2, cur, e2, _, hg, _⟩
    · rw [e2] at hk; cases hk
    · rw [e2] at hk
      injection hk with hk
      subst hk
      rcases h1.kind _ hm with ⟨cs, hb⟩ | ⟨cs, hb⟩
      · exact hb.ne_type (show Blk W g2 60 cur from hg) (by decide) rfl
      · exact hb.ne_type (show Blk W g2 60 cur from hg) (by decide) rfl
/-- an entry is laid into a new block -/
theorem Q.addX (h : Q w W B c D m L Os Xs) {g : Nat} {e : CM.E} {rv : Value} (T : Touch [] W W') (hb : Blk W' g 31 (entV e rv)) (hg : W.heap.size ≤ g) (hr : W.ownsRow 0 60 5 rv e.recs.length (flat e.recs)) : Q w W' B c D m L Os ((g, e, rv) :: Xs) := by
  have h' := h.quiet T
  obtain ⟨v, h1, h2⟩ := h.dc
  refine ⟨h'.oc, h'.t, ⟨v, h1.quiet T, fun x hx => ?_⟩, h'.os, fun x hx => ?_⟩
  · rcases List.mem_cons.1 hx with rfl | hx
    · intro hm
      have := (h1.lt _ hm).2
      simp only at this
      omega
    · exact h2 x hx
  · rcases List.mem_cons.1 hx with rfl | hx
    · exact ⟨hb, trow_touch hr T (by simp)⟩
    · exact h'.xs x hx
theorem Q.addO (h : Q w W B c D m L Os Xs) {g : Nat} {cs : Array Value} (T : Touch [] W W') (hb : Blk W' g 33 cs) : Q w W' B c D m L ((g, cs) :: Os) Xs := by
  have h' := h.quiet T
  refine ⟨h'.oc, h'.t, h'.dc, fun x hx => ?_, h'.xs⟩
  rcases List.mem_cons.1 hx with rfl | hx
  · exact hb
  · exact h'.os x hx
theorem Q.drop (h : Q w W B c D m L Os Xs) : Q w W B c D m L [] [] := by
  obtain ⟨v, h1, h2⟩ := h.dc
  exact ⟨h.oc, h.t, ⟨v, h1, by simp⟩, by simp, by simp⟩
end
/-- what a Put made of the cache -/
def PutC (c : C) (e : CM.E) (now : Int) (c' : C) : Prop := (CM.mayPut c e now = false ∧ c' = c) ∨ (CM.mayPut c e now = true ∧ ∃ x : It, x.e = e ∧ x.key = CM.key e ∧ c' = CM.put c x now)
theorem PutC.sim {c c' : C} {e : CM.E} {now : Int} {L : List CM.E} (h : PutC c e now c') (s : CM.Sim c L) (I : CM.Inv c) : CM.Sim c' (dputL (CM.room c) L e now) ∧ CM.dmay L e now = CM.mayPut c e now := by
  have hm := s.may I e now
  refine ⟨?_, hm⟩
  unfold dputL
  rcases h with ⟨h1, rfl⟩ | ⟨h1, x, rfl, h3, rfl⟩
  · rw [hm, h1]; exact s
  · rw [hm, h1]; exact s.put I x now h3
theorem PutC.most {c c' : C} {e : CM.E} {now : Int} (h : PutC c e now c') : c'.most = c.most ∧ c'.uses ≤ c.uses + 1 := by
  rcases h with ⟨_, rfl⟩ | ⟨_, x, _, _, rfl⟩
  · exact ⟨rfl, by omega⟩
  · exact ⟨rfl, Int.le_refl _⟩
/-- what is told -/
def toldB (o : Option CM.E) : CM.E × Bool := match o with
  | none => (zE7, false)
  | some e => (e, true)
/-- the cache behind an entry's use -/
def tellC (c : C) (k : ByteArray) (now : Int) : C := match CM.tell c k now with
  | none => c
  | some x => CM.used c x.g
theorem tell_sim {c : C} {L : List CM.E} (s : CM.Sim c L) (I : CM.Inv c) (k : ByteArray) (now : Int) : CM.Sim (tellC c k now) (CM.dtell L k now).2 ∧ (CM.tell c k now).map It.e = (CM.dtell L k now).1 := by
  unfold tellC
  rcases s.tell I k now with ⟨h1, h2⟩ | ⟨x, h1, h2, h3⟩
  · rw [h1, h2]; exact ⟨s, rfl⟩
  · rw [h1, h2]; exact ⟨h3, rfl⟩
theorem tellC_most (c : C) (k : ByteArray) (now : Int) : (tellC c k now).most = c.most ∧ (tellC c k now).uses ≤ c.uses + 1 := by
  unfold tellC
  split
  · exact ⟨rfl, by omega⟩
  · exact ⟨rfl, Int.le_refl _⟩
section
variable {w W : World} {B : Nat} {c : C} {D : Nat} {m : Int} {L : List CM.E} {Os : List (Nat × Array Value)} {Xs : List (Nat × CM.E × Value)}
theorem qput (h : Q w W B c D m L Os Xs) (e : CM.E) (a : Option Addr) (cp : Nat) (hr : W.ownsRow 0 60 5 (.slice a e.recs.length cp) e.recs.length (flat e.recs)) (hf : DOk e) (hu : c.uses ≤ 1099511627776) (now : Int) :
    Calls Tryz.prog 19 #[.pointer (some ⟨B, 0, none⟩), .agg (entV e (.slice a e.recs.length cp)), .int .i64 now] W fun e1 W' => e1 = .returned (.bool (CM.mayPut c e now)) ∧ ∃ c', PutC c e now c' ∧ Q w W' B c' D m L Os Xs := by
  refine (oput w W B c h.oc e _ now hf.1 (RecsAt.of_row hr).1 (Far.of_row hr) hf.2.1 hf.2.2 hu).mono ?_
  rintro e1 W' ⟨S, rfl, H⟩
  refine ⟨rfl, ?_⟩
  rcases H with ⟨h1, O⟩ | ⟨h1, x, h2, h3, _, O⟩
  · exact ⟨c, .inl ⟨h1, rfl⟩, h.code S O⟩
  · exact ⟨_, .inr ⟨h1, x, h2, h3, rfl⟩, h.code S O⟩
theorem qdput (h : Q w W B c D m L Os Xs) (e : CM.E) (a : Option Addr) (cp : Nat) (hr : W.ownsRow 0 60 5 (.slice a e.recs.length cp) e.recs.length (flat e.recs)) (hf : DOk e) (hl : L.length ≤ 999999) (hm : 1 ≤ m) (now : Int) :
    Calls Tryz.prog 20 #[.pointer (some ⟨D, 0, none⟩), .agg (entV e (.slice a e.recs.length cp)), .int .i64 now] W fun e1 W' => e1 = .returned (.bool (CM.dmay L e now)) ∧ Q w W' B c D m (dputL m L e now) Os Xs := by
  obtain ⟨v, h1, h2⟩ := h.dc
  refine (dput_any W D v w.heap.size m L h1 e a cp now hf hr hl hm).mono ?_
  rintro e1 W' ⟨rfl, v', E⟩
  exact ⟨rfl, h.doc h1 h2 E⟩
/-- the end of a call that tells -/
def ToldAt (W' : World) (o : Option CM.E) (e1 : Ending) : Prop := ∃ ra rc, e1 = .returned (.tuple #[.agg (entV (toldB o).1 (.slice ra (toldB o).1.recs.length rc)), .bool (toldB o).2]) ∧ W'.ownsRow 0 60 5 (.slice ra (toldB o).1.recs.length rc) (toldB o).1.recs.length (flat (toldB o).1.recs) ∧ (toldB o).1.recs.length ≤ 1000
theorem tell_end (h : Q w W B c D m L Os Xs) (k : ByteArray) (now : Int) {e1 : Ending} {W' : World} (H : TellO w W B c (CM.tell c k now) e1 W') : ToldAt W' ((CM.tell c k now).map It.e) e1 ∧ Q w W' B (tellC c k now) D m L Os Xs := by
  obtain ⟨S, H⟩ := H
  unfold tellC
  rcases H with ⟨h1, rfl, O⟩ | ⟨x, a, cp, h1, rfl, hrow, O⟩
  · rw [h1]
    exact ⟨⟨none, 0, rfl, World.ownsRow_nil _ _ _ _, by show (0 : Nat) ≤ 1000; omega⟩, h.code S O⟩
  · have hx := CM.tell_some h1
    rw [h1]
    exact ⟨⟨a, cp, rfl, trow_base hrow (Nat.zero_le _), by have := (check_name (h.oc.inv.key x hx.1).2).2.1; show x.e.recs.length ≤ 1000; omega⟩, h.code S O⟩
theorem qget (h : Q w W B c D m L Os Xs) (n : ByteArray) (hn : n.size ≤ 1000000000000) (t cl : Int) (ht : 0 ≤ t ∧ t ≤ 65535) (hc : 0 ≤ cl ∧ cl ≤ 65535) (now : Int) (hu : c.uses ≤ 1099511627776) :
    Calls Tryz.prog 8 #[.pointer (some ⟨B, 0, none⟩), .string n, .int .u16 t, .int .u16 cl, .int .i64 now] W fun e1 W' => ToldAt W' ((CM.tell c (ofBs (CM.keyB 0 (bs n) t cl)) now).map It.e) e1 ∧ Q w W' B (tellC c (ofBs (CM.keyB 0 (bs n) t cl)) now) D m L Os Xs := by
  obtain ⟨t, rfl⟩ := Int.eq_ofNat_of_zero_le ht.1
  obtain ⟨cl, rfl⟩ := Int.eq_ofNat_of_zero_le hc.1
  exact (oget w W B c h.oc n hn t cl now hu).mono (fun e1 W' H => tell_end h _ now H)
theorem qname (h : Q w W B c D m L Os Xs) (n : ByteArray) (hn : n.size ≤ 1000000000000) (cl : Int) (hc : 0 ≤ cl ∧ cl ≤ 65535) (now : Int) (hu : c.uses ≤ 1099511627776) :
    Calls Tryz.prog 11 #[.pointer (some ⟨B, 0, none⟩), .string n, .int .u16 cl, .int .i64 now] W fun e1 W' => ToldAt W' ((CM.tell c (ofBs (CM.keyB 1 (bs n) ((0 : Nat) : Int) cl)) now).map It.e) e1 ∧ Q w W' B (tellC c (ofBs (CM.keyB 1 (bs n) ((0 : Nat) : Int) cl)) now) D m L Os Xs := by
  obtain ⟨cl, rfl⟩ := Int.eq_ofNat_of_zero_le hc.1
  exact (oname w W B c h.oc n hn cl now hu).mono (fun e1 W' H => tell_end h _ now H)
theorem dtell_end (h : Q w W B c D m L Os Xs) (k : ByteArray) (now : Int) {v : Value} (h1 : DCa W D v w.heap.size m L) (h2 : ∀ x ∈ Xs, x.1 ∉ dft D v) (hrl : ∀ e ∈ L, e.recs.length ≤ 1000) {e1 : Ending} {W' : World} (H : DTell W D v w.heap.size m L (CM.dtell L k now) e1 W') (hno : (CM.dtell L k now).1 = none → (CM.dtell L k now).2 = L) :
    ToldAt W' (CM.dtell L k now).1 e1 ∧ Q w W' B c D m (CM.dtell L k now).2 Os Xs := by
  rcases H with ⟨h3, rfl, E⟩ | ⟨x, ra, rc, v', h3, rfl, hx, hrow, E⟩
  · rw [h3, hno h3]
    exact ⟨⟨none, 0, rfl, World.ownsRow_nil _ _ _ _, by show (0 : Nat) ≤ 1000; omega⟩, h.doc h1 h2 E⟩
  · rw [h3]
    exact ⟨⟨ra, rc, rfl, hrow, hrl x hx⟩, h.doc h1 h2 E⟩
theorem dtell_none (L : List CM.E) (k : ByteArray) (now : Int) : (CM.dtell L k now).1 = none → (CM.dtell L k now).2 = L := by
  unfold CM.dtell
  split
  · intro _; rfl
  · split
    · intro _; rfl
    · split
      · intro _; rfl
      · intro h; cases h
theorem qdget (h : Q w W B c D m L Os Xs) (hrl : ∀ e ∈ L, e.recs.length ≤ 1000) (n : ByteArray) (hn : n.size ≤ 1099511627776) (t cl : Int) (ht : 0 ≤ t ∧ t ≤ 65535) (hc : 0 ≤ cl ∧ cl ≤ 65535) (now : Int) :
    Calls Tryz.prog 9 #[.pointer (some ⟨D, 0, none⟩), .string n, .int .u16 t, .int .u16 cl, .int .i64 now] W fun e1 W' => ToldAt W' (CM.dtell L (ofBs (CM.keyB 0 (bs n) t cl)) now).1 e1 ∧ Q w W' B c D m (CM.dtell L (ofBs (CM.keyB 0 (bs n) t cl)) now).2 Os Xs := by
  obtain ⟨t, rfl⟩ := Int.eq_ofNat_of_zero_le ht.1
  obtain ⟨cl, rfl⟩ := Int.eq_ofNat_of_zero_le hc.1
  obtain ⟨v, h1, h2⟩ := h.dc
  exact (dget_any W D v w.heap.size m L h1 n hn t cl now).mono (fun e1 W' H => dtell_end h _ now h1 h2 hrl H (dtell_none _ _ _))
theorem qdname (h : Q w W B c D m L Os Xs) (hrl : ∀ e ∈ L, e.recs.length ≤ 1000) (n : ByteArray) (hn : n.size ≤ 1099511627776) (cl : Int) (hc : 0 ≤ cl ∧ cl ≤ 65535) (now : Int) :
    Calls Tryz.prog 12 #[.pointer (some ⟨D, 0, none⟩), .string n, .int .u16 cl, .int .i64 now] W fun e1 W' => ToldAt W' (CM.dtell L (ofBs (CM.keyB 1 (bs n) ((0 : Nat) : Int) cl)) now).1 e1 ∧ Q w W' B c D m (CM.dtell L (ofBs (CM.keyB 1 (bs n) ((0 : Nat) : Int) cl)) now).2 Os Xs := by
  obtain ⟨cl, rfl⟩ := Int.eq_ofNat_of_zero_le hc.1
  obtain ⟨v, h1, h2⟩ := h.dc
  exact (dname_any W D v w.heap.size m L h1 n hn cl now).mono (fun e1 W' H => dtell_end h _ now h1 h2 hrl H (dtell_none _ _ _))
theorem inv_rest {c : C} (I : CM.Inv c) {r l' : List It} (hp : (r ++ l').Perm c.h) : CM.Inv { c with h := l' } := by
  refine ⟨CM.nodup_rest hp I.keys, CM.nodup_rest hp I.gs, CM.nodup_rest hp I.useds, fun x hx => I.le x (CM.mem_rest hp hx), ?_, fun x hx => I.key x (CM.mem_rest hp hx)⟩
  have h1 := hp.length_eq
  rw [List.length_append] at h1
  have := I.len
  show (l'.length : Int) ≤ CM.room c
  omega
theorem qexpire (h : Q w W B c D m L Os Xs) (now : Int) :
    Calls Tryz.prog 13 #[.pointer (some ⟨B, 0, none⟩), .int .i64 now] W fun e1 W' => e1 = .returned (.int .i64 ((CM.expire c.h.length c.h now).2 : Int)) ∧ Q w W' B { c with h := (CM.expire c.h.length c.h now).1 } D m L Os Xs := by
  obtain ⟨mo, v, hk, hf⟩ := h.oc.ex
  refine (expire_any W B mo v c.most c.uses c.h hk now).mono ?_
  rintro e1 W' ⟨rfl, v', hk', t, hvo⟩
  obtain ⟨r, hr, _, _⟩ := CM.expire_perm c.h.length c.h now
  refine ⟨rfl, h.code (CStep.of_k hk hf t) ⟨⟨mo, v', hk', fun q hq => hf q (cfoot_sub hvo (fun y hy => CM.mem_rest hr hy) q hq)⟩, inv_rest h.oc.inv hr, h.oc.uses, h.oc.most⟩⟩
theorem qdexpire (h : Q w W B c D m L Os Xs) (now : Int) :
    Calls Tryz.prog 14 #[.pointer (some ⟨D, 0, none⟩), .int .i64 now] W fun e1 W' => (∃ n : Nat, e1 = .returned (.int .i64 (n : Int)) ∧ n + (CM.dexpire L now).length = L.length) ∧ Q w W' B c D m (CM.dexpire L now) Os Xs := by
  obtain ⟨v, h1, h2⟩ := h.dc
  refine (dexpire_any W D v w.heap.size m L h1 now).mono ?_
  rintro e1 W' ⟨n, v', rfl, hn, E⟩
  exact ⟨⟨n, rfl, hn⟩, h.doc h1 h2 E⟩
theorem qflush (h : Q w W B c D m L Os Xs) (z : ByteArray) (hz : z.size ≤ 1099511627776) (ep : Int) :
    Calls Tryz.prog 15 #[.pointer (some ⟨B, 0, none⟩), .string z, .int .i64 ep] W fun e1 W' => ∃ (n : Nat) (l' : List It), e1 = .returned (.int .i64 (n : Int)) ∧ Q w W' B ⟨c.most, c.uses, l'⟩ D m L Os Xs ∧ (∀ y, y ∈ l' ↔ y ∈ c.h ∧ CM.dflushed z ep y.e = false) ∧ n + l'.length = c.h.length ∧ (CM.IsHp c.h → CM.IsHp l') := by
  refine (oflush2 w W B c h.oc z hz ep).mono ?_
  rintro e1 W' ⟨n, l', rfl, O, S, h1, h2, h3⟩
  exact ⟨n, l', rfl, h.code S O, h1, h2, h3⟩
theorem qdflush (h : Q w W B c D m L Os Xs) (z : ByteArray) (hz : z.size ≤ 1099511627776) (ep : Int) :
    Calls Tryz.prog 16 #[.pointer (some ⟨D, 0, none⟩), .string z, .int .i64 ep] W fun e1 W' => (∃ n : Nat, e1 = .returned (.int .i64 (n : Int)) ∧ n + (CM.dflush L z ep).length = L.length) ∧ Q w W' B c D m (CM.dflush L z ep) Os Xs := by
  obtain ⟨v, h1, h2⟩ := h.dc
  refine (dflush_any W D v w.heap.size m L h1 z hz ep).mono ?_
  rintro e1 W' ⟨n, v', rfl, hn, E⟩
  exact ⟨⟨n, rfl, hn⟩, h.doc h1 h2 E⟩
theorem qnext (h : Q w W B c D m L Os Xs) (s : CM.Sim c L) : ∃ t : Int, (Calls Tryz.prog 21 #[.pointer (some ⟨B, 0, none⟩)] W fun e1 W' => e1 = .returned (.tuple #[.int .i64 t, .bool (decide (0 < L.length))]) ∧ Touch [] W W') ∧
    ∀ W2, Touch [] W W2 → Calls Tryz.prog 22 #[.pointer (some ⟨D, 0, none⟩)] W2 fun e1 W' => e1 = .returned (.tuple #[.int .i64 t, .bool (decide (0 < L.length))]) ∧ Touch [] W2 W' := by
  have hl := s.len
  obtain ⟨v, h1, h2⟩ := h.dc
  have hc := onext w W B c h.oc
  have hd := fun W2 (T : Touch [] W W2) => dnext_any W2 D v w.heap.size m L (h1.quiet T)
  rcases s.next with ⟨hch, rfl⟩ | ⟨x, r, hch, ⟨e, he, het⟩, hall⟩
  · refine ⟨0, hc.mono ?_, fun W2 T => (hd W2 T).mono ?_⟩
    · rintro e1 W' ⟨t, rfl, h3, _, T⟩
      rw [h3 hch, ← hl]
      exact ⟨rfl, T⟩
    · rintro e1 W' ⟨t, rfl, h3, T⟩
      rw [h3.none rfl]
      exact ⟨rfl, T⟩
  · refine ⟨x.e.til, hc.mono ?_, fun W2 T => (hd W2 T).mono ?_⟩
    · rintro e1 W' ⟨t, rfl, _, h4, T⟩
      rw [h4 x r hch, ← hl]
      exact ⟨rfl, T⟩
    · rintro e1 W' ⟨t, rfl, h3, T⟩
      have hpos : 0 < L.length := List.length_pos_of_mem he
      obtain ⟨⟨y, hy, hyt⟩, hyl⟩ := h3.some hpos
      rw [List.take_length] at hy hyl
      have := hall y hy
      have := hyl e he
      have ht : t = x.e.til := by omega
      rw [ht]
      exact ⟨rfl, T⟩
/-- all of both -/
theorem qall (h : Q w W B c D m L Os Xs) (s : CM.Sim c L) : Calls Tryz.prog 18 #[.pointer (some ⟨B, 0, none⟩)] W fun e1 W' => ∃ a cp, e1 = .returned (.slice a L.length cp) ∧ REnt W' a L ∧ Touch [] W W' := by
  refine (oall w W B c h.oc).mono ?_
  rintro e1 W' ⟨a, cp, R, P, rfl, hord, hPe, hE, _, T⟩
  obtain ⟨R', o', hL⟩ := s.ex
  have hR := hord.uniq o'
  subst hR
  have hPL : P.map (·.1) = L := by rw [hPe, hL]
  subst hPL
  refine ⟨a, cp, by rw [List.length_map], fun i hi => ?_, T⟩
  have hi2 : i < P.length := by simpa using hi
  obtain ⟨g, ra, rc, h1, h2, h3, h4⟩ := hE.cells hi2 rfl
  have e : (P.map (·.1))[i] = P[i].1 := by simp
  rw [e]
  refine ⟨g, ra, rc, h1, fun j u hu => ?_, trow_base h3 (Nat.zero_le _)⟩
  have hj : j < 9 := by
    have := (List.getElem?_eq_some_iff.1 hu).1
    simpa [entV] using this
  exact h4 j hj u (by rw [← Array.getElem?_toList]; exact hu)
end
end Go.Proofs.YtibbfihnhlgkeaaGreat

/- Package cache: Check. -/
import Derived.Test.YtibbfihnhlgkeaaGreatCacheF
namespace Go.Proofs.YtibbfihnhlgkeaaGreat
open Go.RowKit Go.Maps Go.Shelf
open NM (Bs bs ofBs)

/-- records in memory -/
def RecsAt (W : World) (rv : Value) (l : List CM.R) : Prop := ∃ a cap, rv = .slice a l.length cap ∧ l.length ≤ cap ∧ cap ≤ maxLen ∧
  (0 < l.length → ∃ g off, a = some ⟨g, off, none⟩ ∧ g < W.heap.size ∧ ∀ i (hi : i < l.length), ∀ j, j < 5 → W.cell? ⟨g, off + (i * 5 + j), none⟩ = (recV l[i])[j]?)
theorem RecsAt.touch {W W' : World} {rv : Value} {l : List CM.R} {S : List Nat} (h : RecsAt W rv l) (t : Touch S W W') (hS : ∀ g off n c, rv = .slice (some ⟨g, off, none⟩) n c → 0 < n → g ∉ S) : RecsAt W' rv l := by
  obtain ⟨a, cap, h1, h2, h3, h4⟩ := h
  refine ⟨a, cap, h1, h2, h3, fun hp => ?_⟩
  obtain ⟨g, off, ha, hg, hc⟩ := h4 hp
  refine ⟨g, off, ha, Nat.lt_of_lt_of_le hg t.size, fun i hi j hj => ?_⟩
  have hb := t.block g hg (hS g off l.length cap (by rw [h1, ha]) hp)
  rw [World.cell?_of_block hb]
  exact hc i hi j hj
theorem RecsAt.touch0 {W W' : World} {rv : Value} {l : List CM.R} (h : RecsAt W rv l) (t : Touch [] W W') : RecsAt W' rv l := h.touch t (by simp)
/-- an entry's texts are no longer than they may be -/
def EFits (e : CM.E) : Prop := e.name.size ≤ 1099511627776 ∧ ∀ r ∈ e.recs, RFits r

theorem check_bad1 {e : CM.E} (h : CM.okHead e = false) : CM.check e = 1 := by unfold CM.check; rw [h]; simp
theorem check_bad2 {e : CM.E} (h : CM.okLen e = false) : CM.check e = 1 := by unfold CM.check; rw [h]; simp
theorem check_bad3 {e : CM.E} (r : CM.R) (hr : r ∈ e.recs) (h : CM.okRec e r = false) : CM.check e = 1 := by
  unfold CM.check
  rw [if_neg]
  intro h2
  rw [Bool.and_eq_true, List.all_eq_true] at h2
  rw [h2.2 r hr] at h
  cases h
theorem check_good {e : CM.E} (h1 : CM.okHead e = true) (h2 : CM.okLen e = true) (h3 : ∀ r ∈ e.recs, CM.okRec e r = true) : CM.check e = 0 := by
  unfold CM.check
  rw [if_pos]
  rw [h1, h2, List.all_eq_true.2 h3]
  rfl
set_option maxRecDepth 10000 in
set_option maxHeartbeats 1000000 in
theorem ccheck_any (w : World) (e : CM.E) (rv : Value) (hf : EFits e) (hrec : RecsAt w rv e.recs) : Calls Tryz.prog 40 #[.agg (entV e rv)] w fun e1 w' => e1 = .returned (.int .i64 (CM.check e)) ∧ Touch [] w w' := by
  obtain ⟨q, hq⟩ : ∃ q, q = CM.check e := ⟨_, rfl⟩
  have HB1 := Lib.hid (@check_bad1 e)
  have HB2 := Lib.hid (@check_bad2 e)
  have HB3 := Lib.hid (@check_bad3 e)
  have HG := Lib.hid (@check_good e)
  rw [← hq] at HB1 HB2 HB3 HG ⊢
  have HF := Lib.hid hf
  have HBk := Lib.hid (Blk.new w 31 (entV e rv))
  obtain ⟨en, hen⟩ : ∃ en, en = e.name := ⟨_, rfl⟩
  have HCK := Lib.hid (fun W => ncheck_any W e.name hf.1)
  obtain ⟨k, hk⟩ : ∃ k, k = NM.check (bs e.name) := ⟨_, rfl⟩
  rw [← hk] at HCK
  obtain ⟨b1, hb1⟩ : ∃ b, b = decide (1 ≤ e.kind ∧ e.kind ≤ 3) := ⟨_, rfl⟩
  obtain ⟨b3, hb3⟩ : ∃ b, b = decide (0 ≤ e.til ∧ e.til ≤ 1125899906842624) := ⟨_, rfl⟩
  obtain ⟨b4, hb4⟩ : ∃ b, b = decide (1 ≤ e.rank ∧ e.rank ≤ 4) := ⟨_, rfl⟩
  obtain ⟨b5, hb5⟩ : ∃ b, b = decide (0 ≤ e.epoch ∧ e.epoch ≤ 1099511627776) := ⟨_, rfl⟩
  have hhead : CM.okHead e = (b1 && decide (k = 0) && b3 && b4 && b5) := by
    unfold CM.okHead
    rw [hb1, hb3, hb4, hb5, hk]
    simp only [Bool.decide_and, Bool.and_assoc]
  have W1 := Lib.hid (fun W => within_any W e.kind 1 3)
  have W3 := Lib.hid (fun W => within_any W e.til 0 1125899906842624)
  have W4 := Lib.hid (fun W => within_any W e.rank 1 4)
  have W5 := Lib.hid (fun W => within_any W e.epoch 0 1099511627776)
  rw [← hb1] at W1
  rw [← hb3] at W3
  rw [← hb4] at W4
  rw [← hb5] at W5
  have HH := Lib.hid hhead
  obtain ⟨a, cap, rfl, hlc, hcm, hcells⟩ := hrec
  have hlenI : (e.recs.length : Int) ≤ 9223372036854775807 := by unfold maxLen at hcm; omega
  have WL := Lib.hid (fun W x y => within_any W (e.recs.length : Int) x y)
  have HC := Lib.hid hcells
  have HI := Lib.hid (And.intro hlc (And.intro hcm hlenI))
  clear hhead hb1 hb3 hb4 hb5 hk hen hcells hlc hcm hlenI hq hf
  show Calls Tryz.prog 40 #[.agg #[.int .i64 e.kind, .string e.name, .int .u16 e.type, .int .u16 e.cls, .slice a e.recs.length cap, .int .i64 e.til, .int .i64 e.rank, .int .i64 e.epoch, .int .i64 e.src]] w fun e1 w' => e1 = .returned (.int .i64 q) ∧ Touch [] w w'
  have hB0 := HBk.out
  have HT0 := Lib.hid ((Touch.refl [] w).alloc (.cells (entV e (.slice a e.recs.length cap)) 31))
  have hbad : ∀ b, (b1 && decide (k = 0) && b3 && b4 && b5) = b → b = false → q = 1 := fun b h1 h2 => HB1.out (by rw [HH.out, h1, h2])
  have HBAD := Lib.hid hbad
  clear hB0 hbad
  go_enter Tryz.func40, Tryz.ntmps40
  go_wp2_with fail
  refine (W1.out _).mono ?_
  rintro e1 w' ⟨rfl, rfl⟩
  cases b1 with
  | false =>
    have H1 := Lib.hid (HBAD.out _ rfl rfl)
    go_wp2_with fail
    go_ret
    exact ⟨by rw [H1.out]; rfl, HT0.out⟩
  | true =>
  go_wp2_with fail
  refine (HCK.out _).mono ?_
  rintro e1 w1 ⟨rfl, T1⟩
  have hB1 := T1.blk HBk.out (by simp)
  have HB := Lib.hid hB1
  have HT1 := Lib.hid (HT0.out.trans T1 (by simp))
  have c0 : w1.cell? ⟨w.heap.size, 0, none⟩ = some (.int .i64 e.kind) := hB1.cell 0
  have c2 : w1.cell? ⟨w.heap.size, 2, none⟩ = some (.int .u16 e.type) := hB1.cell 2
  have c4 : w1.cell? ⟨w.heap.size, 4, none⟩ = some (.slice a e.recs.length cap) := hB1.cell 4
  have c5 : w1.cell? ⟨w.heap.size, 5, none⟩ = some (.int .i64 e.til) := hB1.cell 5
  have c6 : w1.cell? ⟨w.heap.size, 6, none⟩ = some (.int .i64 e.rank) := hB1.cell 6
  have c7 : w1.cell? ⟨w.heap.size, 7, none⟩ = some (.int .i64 e.epoch) := hB1.cell 7
  clear hB1 T1
  by_cases hk : k = 0
  case neg =>
    have H1 := Lib.hid (HBAD.out _ rfl (by simp [hk]))
    go_wp2_with fail
    go_ret
    exact ⟨by rw [H1.out]; rfl, HT1.out⟩
  case pos =>
  subst hk
  go_wp2_with fail
  refine (W3.out _).mono ?_
  rintro e1 w' ⟨rfl, rfl⟩
  cases b3 with
  | false =>
    have H1 := Lib.hid (HBAD.out _ rfl (by simp))
    go_wp2_with fail
    go_ret
    exact ⟨by rw [H1.out]; rfl, HT1.out⟩
  | true =>
  go_wp2_with fail
  refine (W4.out _).mono ?_
  rintro e1 w'' ⟨rfl, rfl⟩
  cases b4 with
  | false =>
    have H1 := Lib.hid (HBAD.out _ rfl (by simp))
    go_wp2_with fail
    go_ret
    exact ⟨by rw [H1.out]; rfl, HT1.out⟩
  | true =>
  go_wp2_with fail
  refine (W5.out _).mono ?_
  rintro e1 w3 ⟨rfl, rfl⟩
  cases b5 with
  | false =>
    have H1 := Lib.hid (HBAD.out _ rfl (by simp))
    go_wp2_with fail
    go_ret
    exact ⟨by rw [H1.out]; rfl, HT1.out⟩
  | true =>
  have HHD := Lib.hid (show CM.okHead e = true by rw [HH.out]; rfl)
  obtain ⟨lo, hi, mv, hlo⟩ : ∃ (lo hi : Int) (mv : Value), (e.kind = 1 ∧ lo = 1 ∧ hi = 64 ∧ mv = .func (.func 63) #[] #[.pointer (some ⟨w.heap.size, 0, none⟩)]) ∨ (e.kind ≠ 1 ∧ lo = 0 ∧ hi = 1 ∧ mv = .func (.func 62) #[] #[]) := by
    by_cases h : e.kind = 1
    · exact ⟨1, 64, _, .inl ⟨h, rfl, rfl, rfl⟩⟩
    · exact ⟨0, 1, _, .inr ⟨h, rfl, rfl, rfl⟩⟩
  have HLO := Lib.hid hlo
  have hlen : CM.okLen e = (decide (lo ≤ (e.recs.length : Int) ∧ (e.recs.length : Int) ≤ hi) && !(decide (e.kind = 3) && !decide (e.type = 0))) := by
    unfold CM.okLen
    have e1 : ((if e.kind = 1 then 1 else 0) ≤ e.recs.length ∧ e.recs.length ≤ (if e.kind = 1 then 64 else 1)) ↔ (lo ≤ (e.recs.length : Int) ∧ (e.recs.length : Int) ≤ hi) := by
      rcases hlo with ⟨h, rfl, rfl, _⟩ | ⟨h, rfl, rfl, _⟩
      · rw [if_pos h, if_pos h]; omega
      · rw [if_neg h, if_neg h]; omega
    rw [Bool.decide_and, decide_eq_decide.2 e1]
    congr 1
    by_cases h3 : e.kind = 3 <;> by_cases h4 : e.type = 0 <;> simp [h3, h4]
  have WL2 := Lib.hid (fun W => WL.out W lo hi)
  obtain ⟨bl, hbl⟩ : ∃ b, b = decide (lo ≤ (e.recs.length : Int) ∧ (e.recs.length : Int) ≤ hi) := ⟨_, rfl⟩
  rw [← hbl] at WL2 hlen
  have HL := Lib.hid hlen
  clear hlen hbl hlo
  go_upto_if 38 with (fail)
  go_cut [3, 4, 5] from 36 to 40 (fun s3 s4 s5 wx => s3 = mv ∧ s4 = .int .i64 lo ∧ s5 = .int .i64 hi ∧ wx = w3)
  case first =>
    rcases HLO.out with ⟨h, rfl, rfl, rfl⟩ | ⟨h, rfl, rfl, rfl⟩
    · have h2 : (e.kind == 1) = true := by simpa using h
      clear h
      go_wp2_with fail
      go_meet
      exact ⟨rfl, rfl, rfl, rfl⟩
    · have h2 : (e.kind == 1) = false := by simpa using h
      clear h
      go_wp2_with fail
      go_meet
      exact ⟨rfl, rfl, rfl, rfl⟩
  case rest =>
  obtain ⟨hs3, rfl, rfl, hwx⟩ := hcut
  obtain rfl := hwx.symm
  obtain rfl := hs3.symm
  go_wp2_with fail
  refine (WL2.out _).mono ?_
  rintro e1 w4 ⟨rfl, rfl⟩
  cases bl with
  | false =>
    have H1 := Lib.hid (HB2.out (by rw [HL.out]; rfl))
    go_wp2_with fail
    go_ret
    exact ⟨by rw [H1.out]; rfl, HT1.out⟩
  | true =>
  have hok : CM.okLen e = !(decide (e.kind = 3) && !decide (e.type = 0)) := by rw [HL.out]; rfl
  have HOK := Lib.hid hok
  clear hok
  by_cases hbad : e.kind = 3 ∧ e.type ≠ 0
  case pos =>
    have H1 := Lib.hid (HB2.out (by rw [HOK.out, decide_eq_true hbad.1, decide_eq_false hbad.2]; rfl))
    have h2 : (e.kind == 3) = true := by simpa using hbad.1
    have h3 : (e.type != 0) = true := by simpa using hbad.2
    clear hbad
    go_wp2_with fail
    go_ret
    exact ⟨by rw [H1.out]; rfl, HT1.out⟩
  case neg =>
  have HLN := Lib.hid (show CM.okLen e = true by
    rw [HOK.out]
    by_cases h3 : e.kind = 3
    · have h4 : e.type = 0 := Classical.byContradiction fun h => hbad ⟨h3, h⟩
      rw [decide_eq_true h4]; simp
    · rw [decide_eq_false h3]; rfl)
  have hor : ((e.kind == 3) = false) ∨ ((e.kind == 3) = true ∧ (e.type != 0) = false) := by
    by_cases h3 : e.kind = 3
    · have h4 : e.type = 0 := Classical.byContradiction fun h => hbad ⟨h3, h⟩
      exact .inr ⟨by simpa using h3, by simp [h4]⟩
    · exact .inl (by simpa using h3)
  clear hbad
  have HMV := Lib.hid (show (e.kind = 1 ∧ mv = .func (.func 63) #[] #[.pointer (some ⟨w.heap.size, 0, none⟩)]) ∨ (e.kind ≠ 1 ∧ mv = .func (.func 62) #[] #[]) from by
    rcases HLO.out with ⟨h, _, _, h2⟩ | ⟨h, _, _, h2⟩
    · exact .inl ⟨h, h2⟩
    · exact .inr ⟨h, h2⟩)
  clear HLO WL WL2 W1 W3 W4 W5 HBAD HCK HH HL HOK
  rcases hor with h2 | ⟨h2, h3⟩
  all_goals
    go_wp2_with fail
    go_loopw [60] (fun u wr => ∃ i : Nat, u = .int .i64 (i : Int) ∧ i ≤ e.recs.length ∧ (∀ j (hj : j < e.recs.length), j < i → CM.okRec e e.recs[j] = true) ∧ Touch [] w wr ∧ Blk wr w.heap.size 31 (entV e (.slice a e.recs.length cap))) (fun u _ => e.recs.length - (intOf u).toNat)
    case atStart => exact ⟨0, rfl, Nat.zero_le _, fun j _ h => absurd h (Nat.not_lt_zero _), HT1.out, HB.out⟩
    case round =>
      obtain ⟨i, rfl, hi, hall, hT, hBo⟩ := hrel
      obtain ⟨wo, rfl⟩ : ∃ wo, wo = wr := ⟨_, rfl⟩
      have HA := Lib.hid hall
      have HTT := Lib.hid hT
      have HBo := Lib.hid hBo
      clear hall hT hBo
      by_cases hlt : i < e.recs.length
      case neg =>
        have H1 := Lib.hid (HG.out HHD.out HLN.out (fun r hr => by
          obtain ⟨j, hj, rfl⟩ := List.mem_iff_getElem.1 hr
          exact HA.out j hj (by omega)))
        have hge : (e.recs.length : Int) ≤ (i : Int) := by omega
        clear hlt hi
        go_wp2_with fail
        go_ret
        exact ⟨by rw [H1.out]; rfl, HTT.out⟩
      case pos =>
      have hltI : (i : Int) < (e.recs.length : Int) := by omega
      have HWR := Lib.hid (show wrap64 ((i : Int) + 1) = (i : Int) + 1 from IntWalk.wrap64_in _ (by have := HI.out.2.2; omega))
      have HQ := Lib.hid (show e.recs.length - (i + 1) < e.recs.length - i by omega)
      obtain ⟨g, off, hag, hgl, hc⟩ := HC.out (by omega)
      have HLT := Lib.hid hlt
      obtain ⟨r, hr⟩ : ∃ r, r = e.recs[i] := ⟨_, rfl⟩
      have hcc : ∀ j, j < 5 → w.cell? ⟨g, off + (i * 5 + j), none⟩ = (recV r)[j]? := by rw [hr]; exact hc i hlt
      have hmem : r ∈ e.recs := by rw [hr]; exact List.getElem_mem _
      have hfit := HF.out.2 r hmem
      have HB3i := Lib.hid (HB3.out r hmem)
      have HAi := Lib.hid (show CM.okRec e r = true → ∀ j (hj : j < e.recs.length), j < i + 1 → CM.okRec e e.recs[j] = true from fun h j hj hji => by
        by_cases e1 : j = i
        · subst e1; rw [hr] at h; exact h
        · exact HA.out j hj (by omega))
      subst hag
      clear hr hmem hlt hi hc
      obtain ⟨n, t, c, ttl, d⟩ := r
      have d0 : wo.cell? ⟨g, off + i * 5, none⟩ = some (.string n) := touch_cell HTT.out (hcc 0 (by decide)) (by simp)
      have d1 : wo.cell? ⟨g, off + i * 5 + 1, none⟩ = some (.int .u16 t) := touch_cell HTT.out (hcc 1 (by decide)) (by simp)
      have d2 : wo.cell? ⟨g, off + i * 5 + 2, none⟩ = some (.int .u16 c) := touch_cell HTT.out (hcc 2 (by decide)) (by simp)
      have d3 : wo.cell? ⟨g, off + i * 5 + 3, none⟩ = some (.int .u32 ttl) := touch_cell HTT.out (hcc 3 (by decide)) (by simp)
      have d4 : wo.cell? ⟨g, off + i * 5 + 4, none⟩ = some (.string d) := touch_cell HTT.out (hcc 4 (by decide)) (by simp)
      obtain ⟨wx, hwx⟩ : ∃ wx, wx = wo.alloc (.cells (recV ⟨n, t, c, ttl, d⟩) 60) := ⟨_, rfl⟩
      have bx : Blk wx w.heap.size 31 (entV e (.slice (some ⟨g, off, none⟩) e.recs.length cap)) := by rw [hwx]; exact HBo.out.alloc _
      have k3 : (wo.alloc (.cells #[.string n, .int .u16 t, .int .u16 c, .int .u32 ttl, .string d] 60)).cell? ⟨w.heap.size, 3, none⟩ = some (.int .u16 e.cls) := (HBo.out.alloc _).cell 3
      have k4 : wo.cell? ⟨w.heap.size, 3, none⟩ = some (.int .u16 e.cls) := HBo.out.cell 3
      have tx : Touch [] wo wx := by rw [hwx]; exact (Touch.refl [] wo).alloc _
      have HX := Lib.hid (And.intro hwx (And.intro bx tx))
      clear hwx bx tx hcc c0 c2 c4 c5 c6 c7
      by_cases hcl : c = e.cls
      case neg =>
        have H1 := Lib.hid (HB3i.out (by unfold CM.okRec; rw [decide_eq_false hcl]; rfl))
        have hc2 : (c == e.cls) = false := by simpa using hcl
        have hc3 : (c != e.cls) = true := by simpa using hcl
        clear hcl
        go_wp2_with fail
        go_ret
        exact ⟨by rw [H1.out]; rfl, HTT.out.alloc _⟩
      case pos =>
      have HCL := Lib.hid hcl
      have hc2 : (c == e.cls) = true := by simpa using hcl
      have hc3 : (c != e.cls) = false := by simpa using hcl
      clear hcl
      have HFT := Lib.hid hfit
      clear hfit
      rcases HMV.out with ⟨hk1, rfl⟩ | ⟨hk1, rfl⟩
      case' inl =>
        have HK1 := Lib.hid hk1
        clear hk1
        go_wp2_with fail
        refine (may2_any _ ⟨n, t, c, ttl, d⟩ HFT.out w.heap.size e HF.out.1 _ (HBo.out.alloc _)).mono ?_
        rintro e1 w5 ⟨rfl, T5⟩
        obtain ⟨mb, hmb⟩ : ∃ b, b = (decide (t = e.type) && NM.same (bs n) (bs e.name)) := ⟨_, rfl⟩
        rw [← hmb]
        have HMB := Lib.hid (show CM.okRec e ⟨n, t, c, ttl, d⟩ = (mb && decide (NM.rcheck (bs n) t (bs d) = 0)) from by
          unfold CM.okRec
          rw [decide_eq_true HCL.out, if_pos HK1.out, hmb]; rfl)
        clear hmb
      case' inr =>
        have HK1 := Lib.hid hk1
        clear hk1
        go_wp2_with fail
        refine (may1_any _ ⟨n, t, c, ttl, d⟩).mono ?_
        rintro e1 w5 ⟨rfl, T5⟩
        obtain ⟨mb, hmb⟩ : ∃ b, b = decide (t = 6) := ⟨_, rfl⟩
        rw [← hmb]
        have HMB := Lib.hid (show CM.okRec e ⟨n, t, c, ttl, d⟩ = (mb && decide (NM.rcheck (bs n) t (bs d) = 0)) from by
          unfold CM.okRec
          rw [decide_eq_true HCL.out, if_neg HK1.out, hmb]; rfl)
        clear hmb
      all_goals
        have HT5 := Lib.hid ((HTT.out.alloc (.cells #[.string n, .int .u16 t, .int .u16 c, .int .u32 ttl, .string d] 60)).trans T5 (by simp))
        have HB5 := Lib.hid (T5.blk (HBo.out.alloc (.cells #[.string n, .int .u16 t, .int .u16 c, .int .u32 ttl, .string d] 60)) (by simp))
        have bR := T5.blk (Blk.new wo 60 #[.string n, .int .u16 t, .int .u16 c, .int .u32 ttl, .string d]) (by simp)
        have m0 : w5.cell? ⟨wo.heap.size, 0, none⟩ = some (.string n) := bR.cell 0
        have m1 : w5.cell? ⟨wo.heap.size, 1, none⟩ = some (.int .u16 t) := bR.cell 1
        have m2 : w5.cell? ⟨wo.heap.size, 2, none⟩ = some (.int .u16 c) := bR.cell 2
        have m3 : w5.cell? ⟨wo.heap.size, 3, none⟩ = some (.int .u32 ttl) := bR.cell 3
        have m4 : w5.cell? ⟨wo.heap.size, 4, none⟩ = some (.string d) := bR.cell 4
        clear T5 bR d0 d1 d2 d3 d4 k3 k4
        cases mb with
        | false =>
          have H1 := Lib.hid (HB3i.out (by rw [HMB.out]; rfl))
          go_wp2_with fail
          go_ret
          exact ⟨by rw [H1.out]; rfl, HT5.out⟩
        | true =>
          have HRC := Lib.hid (fun W => nrec_any W ⟨n, t, c, ttl, d⟩ HFT.out)
          obtain ⟨rk, hrk⟩ : ∃ k, k = NM.rcheck (bs n) t (bs d) := ⟨_, rfl⟩
          have HRC2 := Lib.hid (show ∀ W, Calls Tryz.prog 65 #[.agg #[.string n, .int .u16 t, .int .u16 c, .int .u32 ttl, .string d]] W fun e1 w' => e1 = .returned (.int .i64 rk) ∧ Touch [] W w' from by rw [hrk]; exact HRC.out)
          rw [← hrk] at HMB
          clear hrk HRC
          go_wp2_with fail
          refine (HRC2.out _).mono ?_
          rintro e1 w6 ⟨rfl, T6⟩
          have HT6 := Lib.hid (HT5.out.trans T6 (by simp))
          have HB6 := Lib.hid (T6.blk HB5.out (by simp))
          clear T6 m0 m1 m2 m3 m4
          by_cases hrk : rk = 0
          · have HAA := Lib.hid (HAi.out (by rw [HMB.out, decide_eq_true hrk]; rfl))
            subst hrk
            have hwr := HWR.out
            go_wp2_with fail
            go_roundw
            case rel => exact ⟨i + 1, by rw [hwr]; rfl, HLT.out, HAA.out, HT6.out, HB6.out⟩
            case measure => exact lt_sub_of (by rw [hwr]; rfl) rfl HQ.out
          · have H1 := Lib.hid (HB3i.out (by rw [HMB.out, decide_eq_false hrk]; rfl))
            go_wp2_with fail
            go_ret
            exact ⟨by rw [H1.out]; rfl, HT6.out⟩
end Go.Proofs.YtibbfihnhlgkeaaGreat

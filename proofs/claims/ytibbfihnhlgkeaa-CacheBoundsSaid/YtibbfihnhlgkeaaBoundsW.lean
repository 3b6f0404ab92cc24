import Derived.Test.YtibbfihnhlgkeaaBoundsF
import Derived.Deep.DeepCutAuto
import Derived.Deep.CutBlock
import Derived.Maps.AppendAt
import Derived.Deep.RegionWith
import Derived.Deep.QuietTactic
import Derived.BigQuiet

/- CacheBounds: the walk. -/
namespace Go.Proofs.Ytibbfihnhlgkeaa
open Go.RowKit Go.Maps Go.WideMaps
open NM (Bs bs ofBs)
open CM (It C)

theorem op_range {w W : World} {blk off : Nat} {kd nw N : Int} {e : CM.E} {rv : Value} (h : ∀ j, j < 12 → w.cell? ⟨blk, off + j, none⟩ = (opV kd nw N e rv)[j]?) (T : Touch [] w W) : W.rangeAt blk off (opV kd nw N e rv).toList := by
  intro j v hv
  rw [Array.getElem?_toList] at hv
  have hj : j < 12 := by
    have := (Array.getElem?_eq_some_iff.1 hv).1
    simpa [opV] using this
  exact touch_cell T (by rw [h j hj]; exact hv) (by simp)
abbrev zeroO : Array Value := #[.int .i64 0, .int .i64 0, .int .i64 0, .int .i64 0, .string ⟨#[]⟩, .int .u16 0, .int .u16 0, .slice none 0 0, .int .i64 0, .int .i64 0, .int .i64 0, .int .i64 0]
theorem opV_cells (kd nw N : Int) (e : CM.E) (a : Option Addr) (n c : Nat) : (opV kd nw N e (.slice a n c)).all (·.oneCell') = true := by
  unfold opV
  simp
  exact ⟨rfl, rfl, rfl, rfl, rfl, rfl, rfl, rfl, rfl, rfl, rfl, rfl⟩
set_option maxRecDepth 10000 in
set_option maxHeartbeats 40000000 in
theorem bounds_w (capn : Int) (a : Option Addr) (len cap : Nat) (w : World) (hl : len ≤ cap) (hc : cap ≤ maxLen) (ho : OpsC w a len) :
    Calls Try.prog 7 #[.int .i64 capn, .slice a len cap] w fun e w' => e = .returned (.bool true) ∧ Touch [] w w' := by
  have hr : -20 < capn.tmod 20 ∧ capn.tmod 20 < 20 := by
    have := Int.tmod_lt_of_pos capn (show (0:Int) < 20 by decide)
    have h2 := Int.lt_tmod_of_pos capn (show (0:Int) < 20 by decide)
    omega
  obtain ⟨r, hre⟩ : ∃ r, r = capn.tmod 20 := ⟨_, rfl⟩
  rw [← hre] at hr
  obtain ⟨hr0, hr1⟩ := hr
  have HO := Lib.hid ho
  have hlen : (len : Int) ≤ 9223372036854775807 := by unfold maxLen at hc; omega
  have HLEN := Lib.hid hlen
  clear ho hl hc hlen
  go_enter Try.func7, Try.ntmps7
  go_wp2_with fail
  refine (awake_any _).mono ?_
  rintro e w1 ⟨rfl, T1⟩
  have HT1 := Lib.hid T1
  clear T1
  go_upto_if 28 with (fail)
  go_cut [6] (fun s6 wx => (∃ k : Int, s6 = .int .i64 k ∧ 0 ≤ k ∧ k ≤ 19) ∧ wx = w1)
  case first =>
    by_cases hneg : r < 0
    · go_wp2
      go_meet
      exact ⟨⟨-r, by go_num, by omega⟩, rfl⟩
    · go_wp2
      go_meet
      exact ⟨⟨r, by go_num, by omega⟩, rfl⟩
  case rest =>
    obtain ⟨⟨k, rfl, hk0, hk1⟩, hw⟩ := hcut
    obtain rfl := hw.symm
    clear hre hr0 hr1
    have hwk : wrap64 (k + 1) = k + 1 := IntWalk.wrap64_in _ (by omega)
    have hnw := onew w w1 HT1.out (k + 1)
    rw [show min (max (k + 1) 1) 100000 = k + 1 by omega] at hnw
    have HNW := Lib.hid hnw
    have HK := Lib.hid (And.intro hk0 hk1)
    clear hk0 hk1 hnw
    go_wp2_with fail
    refine HNW.out.mono ?_
    rintro e w2 ⟨B, rfl, O2, T2⟩
    have HO2 := Lib.hid O2
    have HT2 := Lib.hid (HT1.out.trans T2 (by simp))
    obtain ⟨m, hm⟩ : ∃ m, m = k + 1 := ⟨_, rfl⟩
    rw [← hm]
    rw [← hm] at HO2
    have HM := Lib.hid (show 1 ≤ m ∧ m ≤ 20 by have := HK.out; omega)
    clear O2 T2 hwk hm HK HNW
    go_wp2_with fail
    go_loopw [8, 9, 10, 11, 12, 13] (fun s8 s9 s10 s11 s12 s13 wr => ∃ (i : Nat) (now : Int) (c : C) (P : List (CM.E × Value)) (F : List (ByteArray × Int × Nat)) (np nf : Nat) (ap az ae aw : Option Addr) (cp cz ce cw : Nat),
      s8 = .int .i64 now ∧ s9 = .slice ap np cp ∧ s10 = .slice az nf cz ∧ s11 = .slice ae nf ce ∧ s12 = .slice aw nf cw ∧ s13 = .int .i64 (i : Int) ∧ i ≤ 80 ∧ i ≤ len ∧ np = P.length ∧ nf = F.length ∧ BN w wr B m i c P F (.slice ap np cp) (.slice az nf cz) (.slice ae nf ce) (.slice aw nf cw)) (fun _ _ _ _ _ s13 _ => 80 - (intOf s13).toNat)
    case atStart =>
      exact ⟨0, 0, ⟨m, 0, []⟩, [], [], 0, 0, none, none, none, none, 0, 0, 0, 0, rfl, rfl, rfl, rfl, rfl, rfl, by omega, by omega, rfl, rfl, ⟨⟨HO2.out, HT2.out, World.ownsRow_nil _ _ _ _, World.ownsRow_nil _ _ _ _, World.ownsRow_nil _ _ _ _, World.ownsRow_nil _ _ _ _, fun k h _ => (by cases h), fun p hp => (by cases hp)⟩, rfl, by simp, by simp, by simp, fun f hf => (by cases hf), fun p hp => (by cases hp), fun x hx => (by cases hx)⟩⟩
    case round =>
      obtain ⟨i, now, c, P, F, np, nf, ap, az, ae, aw, cp, cz, ce, cw, rfl, rfl, rfl, rfl, rfl, rfl, hi80, hil, hnp, hnf, hbn⟩ := hrel
      obtain ⟨wo, rfl⟩ : ∃ wo, wo = wr := ⟨_, rfl⟩
      have HS := Lib.hid hbn
      have HN := Lib.hid (And.intro hnp hnf)
      clear hbn hnp hnf
      by_cases hlt : i < len
      · by_cases h80 : i < 80
        · have hltI : (i : Int) < (len : Int) := by omega
          have h80I : (i : Int) < 80 := by omega
          obtain ⟨blk, off, kd, nw, N, e0, rv0, rfl, hcells, harg⟩ := HO.out i hlt
          have hcells2 : ∀ j, j < 12 → w.cell? ⟨blk, off + i * 12 + j, none⟩ = (opV kd nw N e0 rv0)[j]? := fun j hj => by rw [Nat.add_assoc]; exact hcells j hj
          have HRG := Lib.hid (op_range hcells2 HS.out.br.t)
          obtain ⟨ra, rc, hra, _⟩ : ∃ ra rc, rv0 = .slice ra e0.recs.length rc ∧ True := by
            obtain ⟨ra, rc, h, _⟩ := harg.recs
            exact ⟨ra, rc, h, trivial⟩
          subst hra
          have HARG := Lib.hid harg
          have HL := Lib.hid (And.intro hlt h80)
          have HB0 := Lib.hid (Blk.new wo 50 zeroO)
          obtain ⟨w3, hw3⟩ : ∃ W, W = (wo.alloc (.cells zeroO 50)).setRow wo.heap.size (opV kd nw N e0 (.slice ra e0.recs.length rc)) := ⟨_, rfl⟩
          have HW3 := Lib.hid hw3
          clear hcells hcells2 harg hlt h80 hi80 hil hw3
          go_upto_region 18 with (first
            | (refine wpList_load_mid rfl 50 (.tmp 49) rfl blk (off + i * 12) rfl _ _ HRG.out Try.underlying50 rfl (by kernel_rfl) ?_)
            | (refine wpList_store_rowTo rfl 50 (.tmp 14) (.tmp 50) rfl rfl wo.heap.size (opV kd nw N e0 (.slice ra e0.recs.length rc)) rfl rfl 50 zeroO HB0.out (by kernel_rfl) rfl (opV_cells _ _ _ _ _ _ _) ?_; rw [← HW3.out]))
          obtain ⟨E, hE⟩ : ∃ E, E = smallE e0 := ⟨_, rfl⟩
          have HSM := Lib.hid (fun W (T : Touch [] wo W) => small_in7 w e0 _ HARG.out W (HS.out.br.t.trans T (by simp)))
          have HF := Lib.hid (show EFits E ∧ E.recs.length ≤ 70 ∧ E.name.size ≤ 300 ∧ (0 ≤ E.type ∧ E.type ≤ 65535) ∧ (0 ≤ E.cls ∧ E.cls ≤ 65535) by
            rw [hE]
            exact ⟨smallE_fits e0, smallE_len e0, (smallE_size e0).1, HARG.out.ty, HARG.out.cls⟩)
          rw [← hE] at HSM
          have T3 : Touch [] wo w3 := by rw [HW3.out]; exact ((Touch.refl [] wo).alloc _).row _ _ (.inr (Nat.le_refl _))
          have hO3 : Blk w3 wo.heap.size 50 (opV kd nw N e0 (.slice ra e0.recs.length rc)) := by rw [HW3.out]; exact HB0.out.row _
          obtain ⟨O, hOe⟩ : ∃ O, O = wo.heap.size := ⟨_, rfl⟩
          have HS3 := Lib.hid (HS.out.quiet T3)
          have HT3 := Lib.hid T3
          simp only [← hOe] at hO3 ⊢
          have HO3 := Lib.hid hO3
          have HR3 := Lib.hid (show w3.rangeAt O 3 (entV e0 (.slice ra e0.recs.length rc)).toList from fun j v hv => by
            have hc : w3.cell? ⟨O, 3 + j, none⟩ = (opV kd nw N e0 (.slice ra e0.recs.length rc))[3 + j]? := hO3.cell (3 + j)
            rw [hc]
            match j, hv with
            | 0, hv => exact hv
            | 1, hv => exact hv
            | 2, hv => exact hv
            | 3, hv => exact hv
            | 4, hv => exact hv
            | 5, hv => exact hv
            | 6, hv => exact hv
            | 7, hv => exact hv
            | 8, hv => exact hv)
          clear hE T3 hO3 hOe HARG HRG HB0 HW3
          go_wp2_with (refine wpList_load_mid rfl 25 (.tmp 51) rfl O 3 rfl _ _ HR3.out Try.underlying25 rfl (by kernel_rfl) ?_)
          refine (HSM.out w3 HT3.out).mono ?_
          rintro e w4 ⟨a4, l4, rfl, hown4, T4⟩
          have HB4 := Lib.hid (Blk.new w4 25 zeroE)
          obtain ⟨w5, hw5⟩ : ∃ W, W = (w4.alloc (.cells zeroE 25)).setRow w4.heap.size (entV E (.slice a4 E.recs.length l4)) := ⟨_, rfl⟩
          have t5 : Touch [] w4 w5 := by rw [hw5]; exact laid_t _ _
          have HS5 := Lib.hid (HS3.out.quiet (T4.trans t5 (by simp)))
          have HO5 := Lib.hid ((T4.trans t5 (by simp)).blk HO3.out (by simp))
          have hD5 : Blk w5 w4.heap.size 25 (entV E (.slice a4 E.recs.length l4)) := by rw [hw5]; exact HB4.out.row _
          have HR5 := Lib.hid (trow_base (trow_touch hown4 t5 (by simp)) (Nat.zero_le _) : w5.ownsRow 0 68 5 (.slice a4 E.recs.length l4) E.recs.length (flat E.recs))
          have HW5 := Lib.hid hw5
          clear hown4 T4 t5 hw5
          go_upto_region 19 with (refine wpList_store_rowTo rfl 25 (.tmp 15) (.tmp 53) rfl rfl w4.heap.size (entV E (.slice a4 E.recs.length l4)) rfl rfl 25 zeroE HB4.out (by kernel_rfl) rfl (entV_cells _ _ _ _) ?_; rw [← HW5.out])
          obtain ⟨D, hDe⟩ : ∃ D, D = w4.heap.size := ⟨_, rfl⟩
          simp only [← hDe] at hD5 ⊢
          have HD5 := Lib.hid hD5
          have y0 : w5.cell? ⟨O, 0, none⟩ = some (.int .i64 kd) := HO5.out.cell 0
          have y1 : w5.cell? ⟨O, 1, none⟩ = some (.int .i64 nw) := HO5.out.cell 1
          clear hD5 hDe HB4 HW5 HR3 HO3 HT3 HSM HS3
          go_upto_if 57 with (fail)
          go_cut [8] from 37 to 179 (fun s8 wx => (∃ n2 : Int, s8 = .int .i64 n2) ∧ wx = w5)
          case first =>
            by_cases hgt : now < nw
            · go_wp2_with fail
              go_meet
              exact ⟨⟨_, rfl⟩, rfl⟩
            · go_wp2_with fail
              go_meet
              exact ⟨⟨_, rfl⟩, rfl⟩
          case rest =>
            obtain ⟨⟨n2, rfl⟩, hw⟩ := hcut
            obtain rfl := hw.symm
            clear y1
            obtain ⟨b8, hb8⟩ : ∃ b : Bool, b = (kd.tmod 10 == 8 || kd.tmod 10 == -8) := ⟨_, rfl⟩
            obtain ⟨b4, hb4⟩ : ∃ b : Bool, b = (kd.tmod 10 == 4 || (kd.tmod 10 == 5 || (kd.tmod 10 == -4 || kd.tmod 10 == -5))) := ⟨_, rfl⟩
            have HB8 := Lib.hid hb8
            have HB9 := Lib.hid hb4
            clear hb8 hb4
            go_upto_if 71 with (fail)
            go_cut [62, 71] from 37 to 179 (fun s62 s wx => s62 = .int .i64 (kd.tmod 10) ∧ s = .bool b8 ∧ wx = w5)
            case first =>
              by_cases q : kd.tmod 10 = 8
              · have q' : (kd.tmod 10 == 8) = true := by simpa using q
                go_wp2_with fail
                go_meet
                exact ⟨by first | rfl | rw [q], by rw [HB8.out, q']; rfl, rfl⟩
              · have q' : (kd.tmod 10 == 8) = false := by simpa using q
                go_wp2_with fail
                go_meet
                exact ⟨by first | rfl | rw [q], by rw [HB8.out, q']; rfl, rfl⟩
            case rest =>
              obtain ⟨rfl, rfl, hw⟩ := hcut
              obtain rfl := hw.symm
              clear HB8
              cases b8 with
              | true =>
                have hS := HS5.out
                have z1 : w5.cell? ⟨D, 1, none⟩ = some (.string E.name) := HD5.out.cell 1
                have y2 : w5.cell? ⟨O, 2, none⟩ = some (.int .i64 N) := HO5.out.cell 2
                clear y0
                have HFL := Lib.hid (oflush w w5 B c hS.br.oc E.name (by have := HF.out.2.2.1; omega) N)
                clear hS
                go_wp2_with fail
                refine HFL.out.mono ?_
                rintro e w6 ⟨n6, l', rfl, O6, S6, hl6⟩
                have HB6 := Lib.hid (HS5.out.br.step S6 O6)
                have hO6 := S6.blk HO5.out (by decide) (by decide) (by decide)
                have hD6 := S6.blk HD5.out (by decide) (by decide) (by decide)
                have HO6 := Lib.hid hO6
                have HD6 := Lib.hid hD6
                have HL6 := Lib.hid hl6
                have z1' : w6.cell? ⟨D, 1, none⟩ = some (.string E.name) := hD6.cell 1
                obtain ⟨i1, hi1, hx1, hx2, hx3⟩ := info_parts infoTxt
                obtain ⟨i2, hi2, hx4, hx5, hx6⟩ := info_parts infoInt
                have HI := Lib.hid (And.intro hi1 (And.intro hx1 (And.intro hx2 hx3)))
                have HJ := Lib.hid (And.intro hi2 (And.intro hx4 (And.intro hx5 hx6)))
                have HQ := Lib.hid (show np ≤ 80 ∧ nf ≤ 80 by have := HL.out; have := HN.out; have := HS.out.lp; have := HS.out.lf; omega)
                clear O6 S6 hO6 hD6 hl6 z1 y2 hi1 hx1 hx2 hx3 hi2 hx4 hx5 hx6 HFL
                go_upto_region 27 with (fail)
                go_upto_region 28 with (at_builtin; refine wpList_append_own_at _ rfl (.tmp 80) (.tmp 83) 47 rfl w.heap.size 9 i1 _ 1 16 Try.underlying47 HI.out.1 HI.out.2.1 HI.out.2.2.1 HI.out.2.2.2 rfl (by decide) (.slice az nf cz) nf _ rfl ((own_n HB6.out.rz (by rw [List.length_map]; exact HN.out.2.symm)).alloc _) ⟨w6.heap.size, 0, none⟩ 1 1 [.string E.name] rfl rfl (cell_one_new _ _ _) (by simp [Value.oneCell']) (by unfold maxLen; have := HQ.out; omega) (by have := HQ.out; omega) (by have := HB6.out.t.size; simp; omega) ?_; intro v7 w7 hown7 hgrow7 _ hat7)
                have T7 : Touch (Value.slice az nf cz).ownBlock.toList w6 w7 := ((Touch.refl _ w6).alloc _).trans (Touch.of_grown hgrow7) (fun k hk => .inl hk)
                have HB7 := Lib.hid (HB6.out.pushZ (own_n hown7 (by rw [List.length_map, HN.out.2])) T7)
                have HO7 := Lib.hid (blk_keep HO6.out HB6.out.rz (by decide) T7)
                obtain ⟨g7, c7, rfl⟩ := ownsRow_succ hown7
                have y2 : w7.cell? ⟨O, 2, none⟩ = some (.int .i64 N) := HO7.out.cell 2
                clear T7 hown7 hgrow7 hat7 z1' HB6 HO6
                go_upto_region 29 with (at_builtin; refine wpList_append_own_at _ rfl (.tmp 85) (.tmp 88) 48 rfl w.heap.size 3 i2 _ 1 8 Try.underlying48 HJ.out.1 HJ.out.2.1 HJ.out.2.2.1 HJ.out.2.2.2 rfl (by decide) (.slice ae nf ce) nf _ rfl ((own_n HB7.out.re (by rw [List.length_map]; exact HN.out.2.symm)).alloc _) ⟨w7.heap.size, 0, none⟩ 1 1 [.int .i64 N] rfl rfl (cell_one_new _ _ _) (by simp [Value.oneCell']) (by unfold maxLen; have := HQ.out; omega) (by have := HQ.out; omega) (by have := HB7.out.t.size; simp; omega) ?_; intro v8 w8 hown8 hgrow8 _ hat8)
                have T8 : Touch (Value.slice ae nf ce).ownBlock.toList w7 w8 := ((Touch.refl _ w7).alloc _).trans (Touch.of_grown hgrow8) (fun k hk => .inl hk)
                have HB8 := Lib.hid (HB7.out.pushE (own_n hown8 (by rw [List.length_map, HN.out.2])) T8 _ (by simp) hat8)
                obtain ⟨g8, c8, rfl⟩ := ownsRow_succ hown8
                clear T8 hown8 hgrow8 hat8 y2 HB7 HO7
                go_upto_region 50 with (at_builtin; refine wpList_append_own_at _ rfl (.tmp 90) (.tmp 93) 48 rfl w.heap.size 3 i2 _ 1 8 Try.underlying48 HJ.out.1 HJ.out.2.1 HJ.out.2.2.1 HJ.out.2.2.2 rfl (by decide) (.slice aw nf cw) nf _ rfl ((own_n HB8.out.rw (by rw [List.length_map]; exact HN.out.2.symm)).alloc _) ⟨w8.heap.size, 0, none⟩ 1 1 [.int .i64 (np : Int)] rfl rfl (cell_one_new _ _ _) (by simp [Value.oneCell']) (by unfold maxLen; have := HQ.out; omega) (by have := HQ.out; omega) (by have := HB8.out.t.size; simp; omega) ?_; intro v9 w9 hown9 hgrow9 _ hat9)
                have T9 : Touch (Value.slice aw nf cw).ownBlock.toList w8 w9 := ((Touch.refl _ w8).alloc _).trans (Touch.of_grown hgrow9) (fun k hk => .inl hk)
                have hB9 := HB8.out.pushW (own_n hown9 (by rw [List.length_map, HN.out.2])) T9 _ (by simp) hat9
                obtain ⟨g9, c9, rfl⟩ := ownsRow_succ hown9
                have hbn := HS5.out.flush HN.out.1 HF.out.2.2.1 HL6.out hB9
                have HBN := Lib.hid hbn
                obtain ⟨ln, hln, hlc⟩ := hbn.len HM.out
                have HLC := Lib.hid hlc
                have hwr : wrap64 ((i : Int) + 1) = (i : Int) + 1 := IntWalk.wrap64_in _ (by have := HL.out; omega)
                clear T9 hown9 hgrow9 hat9 hB9 hbn hlc HB8
                go_wp2_with fail
                refine HLC.out.mono ?_
                rintro e wz ⟨rfl, rfl⟩
                go_wp2_with fail
                go_roundw
                case rel => exact ⟨i + 1, n2, _, P, _, np, nf + 1, ap, _, _, _, cp, c7, c8, c9, rfl, rfl, rfl, rfl, rfl, by first | rfl | (rw [hwr]; rfl), HL.out.2, HL.out.1, HN.out.1, by rw [List.length_append, HN.out.2]; rfl, HBN.out⟩
                case measure => exact lt_sub_of (x := i + 1) (i := i) (by first | rfl | (rw [hwr]; rfl)) rfl (Nat.sub_lt_sub_left HL.out.2 (Nat.lt_succ_self i))
              | false =>
                go_upto_if 95 with (fail)
                go_cut [95] from 37 to 179 (fun s wx => s = .bool b4 ∧ wx = w5)
                case first =>
                  by_cases q1 : kd.tmod 10 = 4
                  · have q1' : (kd.tmod 10 == 4) = true := by simpa using q1
                    go_wp2_with fail
                    go_meet
                    exact ⟨by rw [HB9.out, q1']; rfl, rfl⟩
                  have q1' : (kd.tmod 10 == 4) = false := by simpa using q1
                  by_cases q2 : kd.tmod 10 = 5
                  · have q2' : (kd.tmod 10 == 5) = true := by simpa using q2
                    go_wp2_with fail
                    go_meet
                    exact ⟨by rw [HB9.out, q1', q2']; rfl, rfl⟩
                  have q2' : (kd.tmod 10 == 5) = false := by simpa using q2
                  by_cases q3 : kd.tmod 10 = -4
                  · have q3' : (kd.tmod 10 == -4) = true := by simpa using q3
                    go_wp2_with fail
                    go_meet
                    exact ⟨by rw [HB9.out, q1', q2', q3']; rfl, rfl⟩
                  have q3' : (kd.tmod 10 == -4) = false := by simpa using q3
                  go_wp2_with fail
                  go_meet
                  exact ⟨by rw [HB9.out, q1', q2', q3']; rfl, rfl⟩
                case rest =>
                  obtain ⟨rfl, hw⟩ := hcut
                  obtain rfl := hw.symm
                  clear HB9
                  cases b4 with
                  | true => 
                    have z1 : w5.cell? ⟨D, 1, none⟩ = some (.string E.name) := HD5.out.cell 1
                    have z2 : w5.cell? ⟨D, 2, none⟩ = some (.int .u16 E.type) := HD5.out.cell 2
                    have z3 : w5.cell? ⟨D, 3, none⟩ = some (.int .u16 E.cls) := HD5.out.cell 3
                    have HG := Lib.hid (ogetB w w5 B c HS5.out.br.oc E.name (by have := HF.out.2.2.1; omega) E.type E.cls HF.out.2.2.2.1 HF.out.2.2.2.2 n2 (by have := HS5.out.uses; have := HL.out; omega))
                    clear y0
                    go_wp2_with fail
                    refine HG.out.mono ?_
                    rintro e w6 ⟨A, a6, l6, is, c', rfl, htold, hrow6, O6, hmo6, hus6, hin6, S6, hlen6⟩
                    have HB6 := Lib.hid (Blk.new w6 25 zeroE)
                    obtain ⟨w7, hw7⟩ : ∃ W, W = (w6.alloc (.cells zeroE 25)).setRow w6.heap.size (entV A (.slice a6 A.recs.length l6)) := ⟨_, rfl⟩
                    have t7 : Touch [] w6 w7 := by rw [hw7]; exact laid_t _ _
                    have HBN := Lib.hid ((HS5.out.same S6 O6 hmo6 hus6 hin6).quiet t7)
                    have hD7 : Blk w7 w6.heap.size 25 (entV A (.slice a6 A.recs.length l6)) := by rw [hw7]; exact HB6.out.row _
                    have HR7 := Lib.hid (trow_touch hrow6 t7 (by simp) : w7.ownsRow 0 68 5 (.slice a6 A.recs.length l6) A.recs.length (flat A.recs))
                    have HTOLD := Lib.hid htold
                    have HLEN6 := Lib.hid hlen6
                    have HW7 := Lib.hid hw7
                    clear htold hrow6 O6 hmo6 hus6 hin6 S6 hlen6 t7 hw7 z1 z2 z3
                    go_upto_region 35 with (refine wpList_store_rowTo rfl 25 (.tmp 16) (.tmp 110) rfl rfl w6.heap.size (entV A (.slice a6 A.recs.length l6)) rfl rfl 25 zeroE HB6.out (by kernel_rfl) rfl (entV_cells _ _ _ _) ?_; rw [← HW7.out])
                    obtain ⟨D2, hD2⟩ : ∃ D, D = w6.heap.size := ⟨_, rfl⟩
                    simp only [← hD2] at hD7 ⊢
                    have HD7 := Lib.hid hD7
                    have hwr : wrap64 ((i : Int) + 1) = (i : Int) + 1 := IntWalk.wrap64_in _ (by have := HL.out; omega)
                    have HWR := Lib.hid hwr
                    clear hD7 hD2 HB6 HW7 HG
                    cases is with
                    | false =>
                      go_wp2_with fail
                      go_roundw
                      case rel => exact ⟨i + 1, n2, c', P, F, np, nf, ap, az, ae, aw, cp, cz, ce, cw, rfl, rfl, rfl, rfl, rfl, by first | rfl | (rw [hwr]; rfl), HL.out.2, HL.out.1, HN.out.1, HN.out.2, HBN.out⟩
                      case measure => exact lt_sub_of (x := i + 1) (i := i) (by first | rfl | (rw [hwr]; rfl)) rfl (Nat.sub_lt_sub_left HL.out.2 (Nat.lt_succ_self i))
                    | true =>
                      obtain ⟨htil, x, hx, hxe⟩ := HTOLD.out rfl
                      have hAn : A.name.size ≤ 1099511627776 := by
                        obtain ⟨mo, v, hk, _⟩ := HS5.out.br.oc.ex
                        rw [← hxe]
                        exact (hk.ok x hx).2.2.1
                      obtain ⟨k0, hk0, hke, hF0⟩ : Seen P F A := by rw [← hxe]; exact HS5.out.good x hx
                      have HSEEN := Lib.hid (show k0 < P.length ∧ (∀ p, P[k0]? = some p → p.1 = A) ∧ ∀ f ∈ F, flOf A k0 f = false from ⟨hk0, fun p hp => by rw [List.getElem?_eq_getElem hk0] at hp; cases hp; exact hke, hF0⟩)
                      have HTIL := Lib.hid htil
                      have HAN := Lib.hid hAn
                      have HQ := Lib.hid (show np ≤ 80 ∧ nf ≤ 80 by have := HL.out; have := HN.out; have := HS.out.lp; have := HS.out.lf; omega)
                      clear htil hx hxe hAn hk0 hke hF0 hwr HTOLD
                      go_upto_block 3 with (fail)
                      refine bounds_find w w7 B D2 m (i + 1) c' P F np nf ap az ae aw cp cz ce cw A a6 l6 k0 HBN.out HN.out HD7.out HR7.out HSEEN.out HAN.out HQ.out ?_
                      intro z19 z20 z21 z22 z23 z114 z115 z116 z117 z118 z119 z120 z121 z122 z123 z124 z125 z126 z127 z128 z129 z130 z131 z132 z133 z134 z135 z136 z137 z138 z139 z140 z141 z142 z143 z144 z145 z146 z147 z148 z149 z150 z151 z152 z153 z154 z155 z156 z157 z158 z159 z160 z161 z162 z163 z164 z165 z166 z167 wx T8
                      have HT8 := Lib.hid T8
                      clear T8
                      have z5 : wx.cell? ⟨D2, 5, none⟩ = some (.int .i64 A.til) := (HT8.out.blk HD7.out (by simp)).cell 5
                      have htil := HTIL.out
                      have hbn := HBN.out.quiet HT8.out
                      have HBX := Lib.hid hbn
                      obtain ⟨ln, hln, hlc⟩ := hbn.len HM.out
                      have HLC := Lib.hid hlc
                      clear hlc hbn
                      go_wp2_with fail
                      refine HLC.out.mono ?_
                      rintro e wz ⟨rfl, rfl⟩
                      have hwr := HWR.out
                      go_wp2_with fail
                      go_roundw
                      case rel => exact ⟨i + 1, n2, c', P, F, np, nf, ap, az, ae, aw, cp, cz, ce, cw, rfl, rfl, rfl, rfl, rfl, by first | rfl | (rw [hwr]; rfl), HL.out.2, HL.out.1, HN.out.1, HN.out.2, HBX.out⟩
                      case measure => exact lt_sub_of (x := i + 1) (i := i) (by first | rfl | (rw [hwr]; rfl)) rfl (Nat.sub_lt_sub_left HL.out.2 (Nat.lt_succ_self i))
                  | false =>
                    obtain ⟨tk, htk⟩ : ∃ tk : Bool, tk = CM.mayPut c E n2 := ⟨_, rfl⟩
                    have hp := oput w w5 B c HS5.out.br.oc E (.slice a4 E.recs.length l4) n2 HF.out.1 (RecsAt.of_row HR5.out).1 (Far.of_row HR5.out) HF.out.2.2.2.1 HF.out.2.2.2.2 (by have := HS5.out.uses; have := HL.out; omega)
                    rw [← htk] at hp
                    have HP := Lib.hid hp
                    clear hp htk y0
                    go_wp2_with (refine wpList_load_row rfl 25 (.tmp 15) rfl D rfl 25 (entV E (.slice a4 E.recs.length l4)) (0, 0) _ HD5.out Try.underlying25 rfl (by kernel_rfl) ?_)
                    refine HP.out.mono ?_
                    rintro e w6 ⟨S6, h6, H6⟩
                    subst h6
                    have hwr : wrap64 ((i : Int) + 1) = (i : Int) + 1 := IntWalk.wrap64_in _ (by have := HL.out; omega)
                    have HWR := Lib.hid hwr
                    clear hwr
                    cases tk with
                    | false =>
                      have O6 : OC w w6 B c := by
                        rcases H6 with ⟨_, O⟩ | ⟨h, _⟩
                        · exact O
                        · cases h
                      have hbn := HS5.out.same S6 O6 rfl (by omega) (fun x hx => ⟨x, hx, rfl⟩)
                      have HBN := Lib.hid hbn
                      obtain ⟨ln, hln, hlc⟩ := hbn.len HM.out
                      have HLC := Lib.hid hlc
                      have hwr := HWR.out
                      clear hlc hbn O6 H6 S6
                      go_wp2_with fail
                      refine HLC.out.mono ?_
                      rintro e w7 ⟨rfl, rfl⟩
                      go_wp2_with fail
                      go_roundw
                      case rel => exact ⟨i + 1, n2, c, P, F, np, nf, ap, az, ae, aw, cp, cz, ce, cw, rfl, rfl, rfl, rfl, rfl, by first | rfl | (rw [hwr]; rfl), HL.out.2, HL.out.1, HN.out.1, HN.out.2, HBN.out⟩
                      case measure => exact lt_sub_of (x := i + 1) (i := i) (by first | rfl | (rw [hwr]; rfl)) rfl (Nat.sub_lt_sub_left HL.out.2 (Nat.lt_succ_self i))
                    | true =>
                      obtain ⟨x, hxe, _, hxg, O6⟩ : ∃ x : It, x.e = E ∧ x.key = CM.key E ∧ (∀ y ∈ c.h, y.g ≠ x.g) ∧ OC w w6 B (CM.put c x n2) := by
                        rcases H6 with ⟨h, _⟩ | ⟨_, h⟩
                        · cases h
                        · exact h
                      have HB6 := Lib.hid (HS5.out.br.step S6 O6)
                      have HD6 := Lib.hid (S6.blk HD5.out (by decide) (by decide) (by decide))
                      have HR6 := Lib.hid (S6.row HR5.out (by decide) (by decide) (by decide))
                      have HX := Lib.hid (And.intro hxe hxg)
                      obtain ⟨i1, hi1, hx1, hx2, hx3⟩ := info_parts infoCached
                      have HI := Lib.hid (And.intro hi1 (And.intro hx1 (And.intro hx2 hx3)))
                      have HQ := Lib.hid (show np ≤ 80 by have := HL.out; have := HN.out; have := HS.out.lp; omega)
                      clear O6 H6 S6 hxe hxg hi1 hx1 hx2 hx3
                      have HE6 := Lib.hid (show Blk w6 D 25 #[.int .i64 E.kind, .string E.name, .int .u16 E.type, .int .u16 E.cls, .slice a4 E.recs.length l4, .int .i64 E.til, .int .i64 E.rank, .int .i64 E.epoch, .int .i64 E.src] from HD6.out)
                      have HOA := Lib.hid (show (w6.alloc (.cells #[.int .i64 E.kind, .string E.name, .int .u16 E.type, .int .u16 E.cls, .slice a4 E.recs.length l4, .int .i64 E.til, .int .i64 E.rank, .int .i64 E.epoch, .int .i64 E.src] 25)).ownsRow w.heap.size 25 9 (.slice ap np cp) np (flatP P) from (own_n HB6.out.rp HN.out.1.symm).alloc _)
                      have HNW := Lib.hid (show ∀ j u, (entV E (.slice a4 E.recs.length l4)).toList[j]? = some u → (w6.alloc (.cells #[.int .i64 E.kind, .string E.name, .int .u16 E.type, .int .u16 E.cls, .slice a4 E.recs.length l4, .int .i64 E.til, .int .i64 E.rank, .int .i64 E.epoch, .int .i64 E.src] 25)).cell? ((⟨w6.heap.size, 0, none⟩ : Addr).add j) = some u from row_news w6 _ _ _ rfl)
                      have HBD := Lib.hid (show np + 1 ≤ maxLen ∧ (np + 1) * 88 ≤ 140737488355328 ∧ w.heap.size ≤ (w6.alloc (.cells #[.int .i64 E.kind, .string E.name, .int .u16 E.type, .int .u16 E.cls, .slice a4 E.recs.length l4, .int .i64 E.til, .int .i64 E.rank, .int .i64 E.epoch, .int .i64 E.src] 25)).heap.size by have := HB6.out.t.size; have := HQ.out; unfold maxLen; simp; omega)
                      have HN1 := Lib.hid (ent_one E a4 E.recs.length l4)
                      go_upto_region 23 with (fail)
                      go_upto_region 50 with (first
                        | (refine wpList_load_row rfl 25 (.tmp 15) rfl D rfl 25 #[.int .i64 E.kind, .string E.name, .int .u16 E.type, .int .u16 E.cls, .slice a4 E.recs.length l4, .int .i64 E.til, .int .i64 E.rank, .int .i64 E.epoch, .int .i64 E.src] (0, 0) _ HE6.out Try.underlying25 rfl (by kernel_rfl) ?_)
                        | (at_builtin; refine wpList_append_own_at _ rfl (.tmp 67) (.tmp 69) 46 rfl w.heap.size 25 i1 _ 9 88 Try.underlying46 HI.out.1 HI.out.2.1 HI.out.2.2.1 HI.out.2.2.2 rfl (by decide) (.slice ap np cp) np (flatP P) rfl HOA.out ⟨w6.heap.size, 0, none⟩ 1 1 (entV E (.slice a4 E.recs.length l4)).toList rfl rfl HNW.out HN1.out HBD.out.1 HBD.out.2.1 HBD.out.2.2 ?_; intro v7 w7 hown7 hgrow7 _ hat7))
                      have T7 : Touch (Value.slice ap np cp).ownBlock.toList w6 w7 := ((Touch.refl _ w6).alloc _).trans (Touch.of_grown hgrow7) (fun k hk => .inl hk)
                      have hB7 := HB6.out.pushP (p := (E, .slice a4 E.recs.length l4)) (own_n hown7 (by rw [HN.out.1])) T7 HR6.out
                      obtain ⟨g7, c7, rfl⟩ := ownsRow_succ hown7
                      have hbn := HS5.out.put HX.out.1 HX.out.2 ⟨HF.out.2.1, HF.out.2.2.1⟩ hB7
                      have HBN := Lib.hid hbn
                      obtain ⟨ln, hln, hlc⟩ := hbn.len HM.out
                      have HLC := Lib.hid hlc
                      have hwr := HWR.out
                      clear T7 hown7 hgrow7 hat7 hB7 hbn hlc HB6
                      go_wp2_with fail
                      refine HLC.out.mono ?_
                      rintro e wz ⟨rfl, rfl⟩
                      go_wp2_with fail
                      go_roundw
                      case rel => exact ⟨i + 1, n2, _, _, F, np + 1, nf, _, az, ae, aw, c7, cz, ce, cw, rfl, rfl, rfl, rfl, rfl, by first | rfl | (rw [hwr]; rfl), HL.out.2, HL.out.1, by rw [List.length_append, HN.out.1]; rfl, HN.out.2, HBN.out⟩
                      case measure => exact lt_sub_of (x := i + 1) (i := i) (by first | rfl | (rw [hwr]; rfl)) rfl (Nat.sub_lt_sub_left HL.out.2 (Nat.lt_succ_self i))
        · have h80I : (80 : Int) ≤ (i : Int) := by omega
          have hltI : (i : Int) < (len : Int) := by omega
          clear hlt h80 hi80 hil
          go_wp2_with fail
          go_ret
          exact ⟨rfl, HS.out.br.t⟩
      · have hltI : (len : Int) ≤ (i : Int) := by omega
        clear hlt hi80 hil
        go_wp2_with fail
        go_ret
        exact ⟨rfl, HS.out.br.t⟩
theorem bounds_walk (capn : Int) (a : Option Addr) (len cap : Nat) (w : World) (_ : (Lit.int .i64 capn).wf = true) (h : Rd w 45 [.slice a len cap]) :
    Calls Try.prog 7 #[.int .i64 capn, .slice a len cap] w fun e w' => e = .returned (.bool true) ∧ Touch [] w w' := by
  obtain ⟨hl, hc, ho⟩ := h.cops
  exact bounds_w capn a len cap w hl hc ho
end Go.Proofs.Ytibbfihnhlgkeaa

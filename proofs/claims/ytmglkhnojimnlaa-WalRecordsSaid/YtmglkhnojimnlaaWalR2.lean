/- The document's records, read: fingerpostref10.Records. -/
import Derived.Test.YtmglkhnojimnlaaWalR1
import Derived.Test.YtmglkhnojimnlaaWalLaw2
namespace Go.Proofs.Ytmglkhnojimnlaa
open Go.RowKit Go.Maps
attribute [local go_sem] Oper.semAt_some

theorem drop_get (s : ByteArray) (at' i : Nat) (h : at' + i < s.size) : ((bs s).drop at')[i]'(by rw [List.length_drop, bs_length]; omega) = s[at' + i] := by
  rw [List.getElem_drop]
  have h9 : (bs s)[at' + i]? = some (s[at' + i]'h) := by
    show s.data.toList[at' + i]? = _
    rw [Array.getElem?_toList, Array.getElem?_eq_getElem h]
    rfl
  rw [List.getElem?_eq_getElem (by rw [bs_length]; exact h)] at h9
  exact Option.some.inj h9
set_option maxRecDepth 100000 in
set_option maxHeartbeats 3200000 in
theorem rrecords_any (w : World) (b : ByteArray) (hbz : b.size ≤ 1099511627776) : Calls Try.prog 14 #[.string b] w fun e w' =>
    ∃ v, e = .returned (.tuple #[v, .int .i64 ((WM.recs (bs b)).2 : Int)]) ∧ StrRow w' w.heap.size v ((WM.recs (bs b)).1.map ofBs) ∧ Touch [] w w' := by
  have hbI : (b.size : Int) ≤ 1099511627776 := by omega
  obtain ⟨i0, hi, hz0, hz1, hz2⟩ := info_parts infoStr
  have HI := Lib.hid (And.intro hi (And.intro hz0 (And.intro hz1 hz2)))
  have HCN := Lib.hid (WM.recs_count (bs b).length (bs b) (Nat.le_refl _))
  rw [bs_length] at HCN
  clear hi hz0 hz1 hz2
  go_enter Try.func14, Try.ntmps14
  go_wp2_with fail
  go_loopw [4, 5] (fun s4 u wr => ∃ (p : Nat) (v : Value) (pre : List ByteArray), v = s4 ∧ u = .int .i64 (p : Int) ∧ p ≤ b.size ∧ StrRow wr w.heap.size v pre ∧ Touch [] w wr ∧
    WM.recs (bs b) = (pre.map bs ++ (WM.recs ((bs b).drop p)).1, p + (WM.recs ((bs b).drop p)).2)) (fun _ u _ => b.size - (intOf u).toNat)
  case atStart => exact ⟨0, _, [], rfl, rfl, Nat.zero_le _, StrRow.nil _ _, Touch.refl _ _, by simp⟩
  case round =>
    obtain ⟨p, v, pre, rfl, rfl, hp, hR, hT, hre⟩ := hrel
    have HR := Lib.hid hR
    have HTT := Lib.hid hT
    have hend : (WM.recs ((bs b).drop p)) = ([], 0) → StrRow wr w.heap.size v ((WM.recs (bs b)).1.map ofBs) ∧ ((WM.recs (bs b)).2 : Int) = (p : Int) := fun h => by
      rw [hre, h]
      refine ⟨?_, by simp⟩
      have : (pre.map bs ++ ([] : List WM.Bs)).map ofBs = pre := by
        rw [List.append_nil, List.map_map]
        conv => rhs; rw [← List.map_id pre]
        exact List.map_congr_left (fun x _ => ofBs_bs x)
      simp only [this]
      exact hR
    have HEND := Lib.hid hend
    have HRE := Lib.hid hre
    have hlen : ((bs b).drop p).length = b.size - p := by rw [List.length_drop, bs_length]
    have HLEN := Lib.hid hlen
    clear hR hT hend hre
    by_cases h8 : b.size - p < 8
    · have h8I : ¬ (8 : Int) ≤ (b.size : Int) - (p : Int) := by omega
      obtain ⟨hE1, hE2⟩ := HEND.out (WM.recs_short (by rw [hlen]; exact h8))
      have HE1 := Lib.hid hE1
      have HE2 := Lib.hid hE2
      clear hlen hE1 hE2
      go_wp2_with fail
      go_ret2
      exact ⟨v, by rw [HE2.out]; rfl, HE1.out, HTT.out⟩
    · have h8I : (8 : Int) ≤ (b.size : Int) - (p : Int) := by omega
      have hnum := WM.numJ_4 ((bs b).drop p) (by omega)
      have HNUM := Lib.hid hnum
      clear hlen hnum
      go_wp2_with fail
      go_loop [6, 7] (fun u z => ∃ j : Nat, j ≤ 4 ∧ u = .int .i64 (WM.numJ ((bs b).drop p) j : Int) ∧ z = .int .i64 j) (fun _ z => 4 - (intOf z).toNat)
      case atStart => exact ⟨0, by omega, rfl, rfl⟩
      case round =>
        obtain ⟨j, hj, rfl, rfl⟩ := hrel
        by_cases hlt : j < 4
        · have hji : p + j < b.size := by omega
          have hst := WM.numJ_succ ((bs b).drop p) j (by rw [HLEN.out]; omega)
          rw [drop_get b p j hji] at hst
          have hnl := WM.numJ_lt ((bs b).drop p) j hj
          obtain ⟨nj, hnj⟩ : ∃ nj, nj = WM.numJ ((bs b).drop p) j := ⟨_, rfl⟩
          rw [← hnj] at hst hnl ⊢
          have hnlI : (nj : Int) ≤ 4294967295 := by omega
          have hcl := b[p + j].toNat_lt
          have HST := Lib.hid hst
          have HNJ := Lib.hid hnj
          have hjI : (j : Int) < 4 := by omega
          have hpjI : (p : Int) + (j : Int) < (b.size : Int) := by omega
          have hwc := wrap_a b[p + j]
          clear hst hnj hnl
          go_wp2_with fail
          go_round
          case rel => exact ⟨j + 1, by omega, by refine congrArg (Value.int .i64) ?_; rw [HST.out]; omega, by go_num⟩
          case measure => simp [intOf]; omega
        · obtain rfl : j = 4 := by omega
          rw [HNUM.out]
          obtain ⟨n, hn⟩ : ∃ n, n = WM.num4 ((bs b).drop p) := ⟨_, rfl⟩
          have hnl : n < 4294967296 := by rw [hn]; exact WM.num4_lt _
          rw [← hn]
          have hnlI : (n : Int) < 4294967296 := by omega
          by_cases hbad : b.size - p - 8 < n ∨ 60000 < n
          · have hE := HEND.out (WM.recs_none (by unfold WM.head?; rw [HLEN.out, if_neg (by omega), ← hn, if_pos (by omega)]))
            obtain ⟨hE1, hE2⟩ := hE
            have HE1 := Lib.hid hE1
            have HE2 := Lib.hid hE2
            have hbadI : (b.size : Int) - (p : Int) - 8 < (n : Int) ∨ (60000 : Int) < (n : Int) := by omega
            clear hE1 hE2 hn hnl hbad
            rcases Int.lt_or_le ((b.size : Int) - (p : Int) - 8) (n : Int) with hq | hq
            · clear hbadI
              go_wp2_with fail
              go_ret2
              exact ⟨v, by rw [HE2.out]; rfl, HE1.out, HTT.out⟩
            · have hq2 : (60000 : Int) < (n : Int) := by omega
              have hq3 : ¬ ((b.size : Int) - (p : Int) - 8 < (n : Int)) := by omega
              clear hbadI hq
              go_wp2_with fail
              go_ret2
              exact ⟨v, by rw [HE2.out]; rfl, HE1.out, HTT.out⟩
          · have hq1 : ¬ ((b.size : Int) - (p : Int) - 8 < (n : Int)) := by omega
            have hq2 : ¬ ((60000 : Int) < (n : Int)) := by omega
            have hn2 : p + 8 + n ≤ b.size := by omega
            have hn2I : (p : Int) + 8 + (n : Int) ≤ (b.size : Int) := by omega
            have hhi := WM.head_iff ((bs b).drop p) (by rw [HLEN.out]; omega) (by rw [← hn, HLEN.out]; omega) (by rw [← hn]; omega)
            rw [← hn] at hhi
            obtain ⟨s, hs⟩ : ∃ s, s = b.extract (p + 8) (p + 8 + n) := ⟨_, rfl⟩
            obtain ⟨t, ht⟩ : ∃ t, t = b.extract p (p + 8 + n) := ⟨_, rfl⟩
            have hbss : bs s = (((bs b).drop p).drop 8).take n := by
              rw [hs, bs_extract, List.drop_drop, show p + 8 + n - (p + 8) = n by omega]
            have hbst : bs t = ((bs b).drop p).take (8 + n) := by
              rw [ht, bs_extract, show p + 8 + n - p = 8 + n by omega]
            have hsz : s.size = n := by rw [hs, ByteArray.size_extract]; omega
            rw [← hbss, ← hbst, ← bs_recS] at hhi
            have hrec := fun W => rrecord_any W s (by omega)
            rw [if_pos (show s.size ≤ 60000 by omega), if_pos (show s.size ≤ 60000 by omega)] at hrec
            have HREC := Lib.hid hrec
            have HN := Lib.hid hn
            clear hrec hbss hbst hn hbad
            obtain ⟨r, hr⟩ : ∃ r, r = recS s := ⟨_, rfl⟩
            rw [← hr] at HREC hhi
            by_cases hrt : r = t
            · rw [if_pos (by rw [hrt])] at hhi
              have hrs := WM.recs_some hhi
              rw [bs_length, hsz, List.drop_drop] at hrs
              have hre := HRE.out
              rw [hrs] at hre
              have hpl : pre.length < b.size := by
                have := HCN.out
                rw [hre] at this
                simp only [List.length_append, List.length_map, List.length_cons] at this
                omega
              have HRE2 := Lib.hid hre
              have heq : (r.toList == (b.extract p (p + 8 + n)).toList) = true := by rw [hrt, ht]; exact toList_eq_self _
              have heq2 : (r.toList != (b.extract p (p + 8 + n)).toList) = false := by rw [bne, heq]; rfl
              have HS := Lib.hid hs
              clear hhi hrs hre hr hrt ht hs
              have hln : pre.length ≤ 1099511627776 := by omega
              have hrow : wr.ownsRow w.heap.size 9 1 v pre.length (pre.map .string) := HR.out
              have HROW := Lib.hid hrow
              clear hrow
              go_wp2_with (first | (go_at_call 12; rw [← HS.out]; refine (HREC.out _).mono ?_; rintro e w1 ⟨rfl, T1⟩; have HT1 := Lib.hid T1; clear T1) | (at_builtin; refine wpList_append_own _ rfl (.tmp 62) (.tmp 64) 27 rfl w.heap.size 9 i0 _ 1 16 Try.underlying27 HI.out.1 HI.out.2.1 HI.out.2.2.1 HI.out.2.2.2 rfl (by decide) v pre.length _ rfl ((row_far HROW.out HT1.out (by simp)).alloc _) ⟨w1.heap.size, 0, none⟩ 1 1 [.string s] rfl rfl (cell_one_new _ _ _) (by simp [Value.oneCell']) (by unfold maxLen; omega) (by omega) (by have := HTT.out.size; have := HT1.out.size; simp; omega) ?_; intro v' w2 hown' hgrow _; obtain ⟨g', cap', rfl⟩ := ownsRow_succ hown'))
              have T2 : Touch [] w w2 := ((HTT.out.trans HT1.out (by simp)).alloc _).trans (Touch.of_grown hgrow) (fun k hk => .inr ((row_far HROW.out HT1.out (by simp)).lt k (by simpa using hk)).1)
              have hR2 : StrRow w2 w.heap.size (.slice (some ⟨g', 0, none⟩) (pre.length + 1) cap') (pre ++ [s]) := by
                unfold StrRow
                rw [List.map_append, List.length_append]
                exact hown'
              have HR2 := Lib.hid hR2
              have HT2 := Lib.hid T2
              clear hR2 T2 hown' hgrow
              go_roundw
              case rel =>
                refine ⟨p + (8 + n), _, pre ++ [s], rfl, by go_num, by omega, HR2.out, HT2.out, ?_⟩
                rw [HRE2.out, List.map_append, List.append_assoc]
                refine Prod.ext rfl ?_
                simp only []
                omega
              case measure => simp [intOf]; omega
            · rw [if_neg (fun h => hrt (bs_inj h))] at hhi
              obtain ⟨hE1, hE2⟩ := HEND.out (WM.recs_none hhi)
              have HE1 := Lib.hid hE1
              have HE2 := Lib.hid hE2
              have heq : (r.toList == (b.extract p (p + 8 + n)).toList) = false := toList_ne (ht ▸ hrt)
              have heq2 : (r.toList != (b.extract p (p + 8 + n)).toList) = true := by rw [bne, heq]; rfl
              clear hE1 hE2 hhi hr hrt
              go_wp2_with (go_at_call 12; rw [← hs]; refine (HREC.out _).mono ?_; rintro e w1 ⟨rfl, T1⟩; have HT1 := Lib.hid T1; clear T1)
              go_ret2
              exact ⟨v, by rw [HE2.out]; rfl, row_far HE1.out HT1.out (by simp), HTT.out.trans HT1.out (by simp)⟩
end Go.Proofs.Ytmglkhnojimnlaa

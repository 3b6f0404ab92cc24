/- law10: WalTurned. -/
import Derived.Test.YtmglkhnojimnlaaWalCuts
import Derived.Laws.IdiomStrings
namespace Go.Proofs.Ytmglkhnojimnlaa
open Go.RowKit Go.Maps

set_option maxRecDepth 10000 in
set_option maxHeartbeats 3200000 in
theorem turned_w (w : World) (a : Option Addr) (cap : Nat) (ss : List ByteArray) (at_ : Int) (tn : Nat) (htn : tn < 256) (hat : (Lit.int .i64 at_).wf = true) (ht : Texts w a ss) (hl : ss.length ≤ maxLen) (hs : ∀ s ∈ ss, s.size ≤ maxLen) :
    Calls Try.prog 4 #[.slice a ss.length cap, .int .i64 at_, .int .u8 (tn : Int)] w fun e w' => e = .returned (.bool true) ∧ Touch [] w w' := by
  obtain ⟨hat0, hat1⟩ := wf64_le hat
  have hfew := fun W (T : Touch [] w W) => few_any W a cap ss (ht.touch T) hl hs
  have hB := Built.few_ ss
  have HFEW := Lib.hid hfew
  obtain ⟨i0, hi, hz0, hz1, hz2⟩ := info_parts infoInt
  have HI := Lib.hid (And.intro hi (And.intro hz0 (And.intro hz1 hz2)))
  obtain ⟨m, hm⟩ : ∃ m, m = fewL ss := ⟨_, rfl⟩
  rw [← hm] at hB HFEW
  obtain ⟨L, hL⟩ : ∃ L, L = m.map bs := ⟨_, rfl⟩
  rw [← hL] at hB
  have HB := Lib.hid hB
  have hm8 := hB.few
  have hm8I : (m.length : Int) ≤ 8 := by omega
  clear hfew hB ht hl hs hi hz0 hz1 hz2 hm hL hat
  go_enter Try.func4, Try.ntmps4
  go_wp2_with fail
  refine (awake_any _).mono ?_
  rintro e w1 ⟨rfl, T1⟩
  go_wp2_with fail
  refine (HFEW.out w1 T1).mono ?_
  rintro e w2 ⟨v2, rfl, hR, T2⟩
  obtain ⟨am, cm, rfl, hcm, hcm2, htx⟩ := hR.open
  unfold maxLen at hcm2
  have HTX := Lib.hid htx
  have HT2 := Lib.hid (T1.trans T2 (by simp))
  have hcmI : (m.length : Int) ≤ (cm : Int) := by omega
  have hcmI2 : (cm : Int) ≤ 9223372036854775807 := by omega
  clear hR T1 T2 htx
  go_wp2_with fail
  go_loopw [9, 10, 11] (fun s7 s8 u wr => ∃ (i : Nat) (v : Value), v = s8 ∧ u = .int .i64 i ∧ i ≤ m.length ∧ s7 = .string (ofBs (WM.all (L.take i))) ∧ EndRow wr w2.heap.size v L i ∧ Touch [] w2 wr) (fun _ _ u _ => m.length - (intOf u).toNat)
  case atStart => exact ⟨0, _, rfl, rfl, Nat.zero_le _, rfl, World.ownsRow_nil _ _ _ _, Touch.refl _ _⟩
  case round =>
    obtain ⟨i, v, rfl, rfl, hi, rfl, hE, hT⟩ := hrel
    have HE := Lib.hid hE
    have HT := Lib.hid hT
    clear hE hT
    by_cases hlt : i < m.length
    · obtain ⟨blk, off, rfl, hc⟩ := HTX.out.texts i hlt
      have hcr := HT.out.cell hc (by simp)
      have hrec := fun W => record_any W m[i] (by have := HB.out.each _ (List.getElem_mem hlt); unfold maxLen; omega)
      rw [if_pos (by have := HB.out.each _ (List.getElem_mem hlt); omega), if_pos (by have := HB.out.each _ (List.getElem_mem hlt); omega)] at hrec
      have hcat := HB.out.step i hlt
      have hmono := WM.all_take_mono L (show i + 1 ≤ L.length by rw [HB.out.len]; exact hlt)
      have hsm := HB.out.small
      rw [List.take_length] at hmono
      have hsz : ((ofBs (WM.all (L.take i)) ++ recS m[i]).size : Int) = ((WM.all (L.take (i + 1))).length : Int) := by rw [hcat, ofBs_size]
      have hszn : (ofBs (WM.all (L.take i)) ++ recS m[i]).size ≤ 1664 := by rw [hcat, ofBs_size]; omega
      have hsc := endsL_succ L i
      rw [← hsz] at hsc
      obtain ⟨s, hse⟩ : ∃ s, s = m[i] := ⟨_, rfl⟩
      rw [← hse] at hcr hrec hcat hszn hsc
      obtain ⟨r, hre⟩ : ∃ r, r = recS s := ⟨_, rfl⟩
      rw [← hre] at hrec hcat hszn hsc
      obtain ⟨x, hx⟩ : ∃ x, x = ofBs (WM.all (L.take i)) := ⟨_, rfl⟩
      rw [← hx] at hcat hszn hsc ⊢
      have HREC := Lib.hid hrec
      have HCAT := Lib.hid hcat
      have HSC := Lib.hid hsc
      have hadd : (x ++ r).size = x.size + r.size := by simp
      rw [hadd] at hszn HSC
      clear hrec hcat hsc hmono hsm hsz hse hre hx hc hadd
      go_wp2_with (first | (go_at_call 11; refine (HREC.out _).mono ?_; rintro e w3 ⟨rfl, T3⟩; have HT3 := Lib.hid (HT.out.trans T3 (by simp)); have HE3 := Lib.hid (row_far HE.out T3 (by simp)); clear T3) | (at_builtin; refine wpList_append_own _ rfl (.tmp 43) (.tmp 46) 34 rfl w2.heap.size 3 i0 _ 1 8 Try.underlying34 HI.out.1 HI.out.2.1 HI.out.2.2.1 HI.out.2.2.2 rfl (by decide) v i _ rfl (HE3.out.alloc _) ⟨w3.heap.size, 0, none⟩ 1 1 [.int .i64 ((x.size + r.size : Nat) : Int)] rfl rfl (cell_one_new _ _ _) (by simp [Value.oneCell']) (by unfold maxLen; omega) (by omega) (by have := HT3.out.size; simp; omega) ?_; intro v' w4 hown' hgrow _; obtain ⟨g', cap', rfl⟩ := ownsRow_succ hown'))
      have hE4 : EndRow w4 w2.heap.size (.slice (some ⟨g', 0, none⟩) (i + 1) cap') L (i + 1) := by unfold EndRow; rw [HSC.out]; exact hown'
      have T4 : Touch [] w2 w4 := (HT3.out.alloc _).trans (Touch.of_grown hgrow) (fun k hk => .inr (HE3.out.lt k (by simpa using hk)).1)
      have HE4 := Lib.hid hE4
      have HT4 := Lib.hid T4
      clear hE4 T4 hown' hgrow
      go_roundw
      case rel => exact ⟨i + 1, _, rfl, by go_num, by omega, by rw [HCAT.out], HE4.out, HT4.out⟩
      case measure => simp [intOf]; omega
    · obtain rfl : i = m.length := by omega
      have hie : L.take m.length = L := List.take_of_length_le (by rw [HB.out.len]; omega)
      rw [hie]
      have hsm := HB.out.small
      obtain ⟨ae, ce, rfl, hce, hcm3, hend⟩ := HE.out.at_
      unfold maxLen at hcm3
      have HEND := Lib.hid hend
      have htz : (ofBs (WM.all L)).size = (WM.all L).length := ofBs_size _
      rw [← htz] at hsm
      have HTZ := Lib.hid htz
      obtain ⟨txt, htxt⟩ : ∃ txt, txt = ofBs (WM.all L) := ⟨_, rfl⟩
      rw [← htxt] at hsm HTZ ⊢
      have HTXT := Lib.hid htxt
      have hsmI : (txt.size : Int) ≤ 1664 := by omega
      have htnI : (tn : Int) < 256 := by omega
      have hceI : (m.length : Int) ≤ (ce : Int) := by omega
      clear hie hend htz htxt
      by_cases hz : txt.size = 0
      · have hzI : ((txt.size : Int) == 0) = true := by rw [hz]; rfl
        have hzI2 : (txt.size == 0) = true := by rw [hz]; rfl
        clear hz
        go_wp2_with fail
        go_ret
        exact ⟨rfl, HT2.out.trans HT.out (by simp)⟩
      have hzI : ((txt.size : Int) == 0) = false := by rw [beq_eq_false_iff_ne]; omega
      have hzI2 : (txt.size == 0) = false := by rw [beq_eq_false_iff_ne]; omega
      by_cases htz : tn = 0
      · subst htz
        clear hz
        go_wp2_with fail
        go_ret
        exact ⟨rfl, HT2.out.trans HT.out (by simp)⟩
      have htzI : ((tn : Int) == 0) = false := by rw [beq_eq_false_iff_ne]; omega
      have htzI2 : (tn == 0) = false := by rw [beq_eq_false_iff_ne]; omega
      go_upto_if 58 with (fail)
      go_cut [14] (fun s14 wx => (∃ k : Nat, s14 = .int .i64 k ∧ (k : Int) ≤ 9223372036854775807) ∧ wx = wr)
      case first =>
        by_cases hneg : at_ < 0
        · go_wp2
          go_meet
          exact ⟨⟨(-(at_ + 1)).toNat, by go_num, by omega⟩, rfl⟩
        · go_wp2
          go_meet
          exact ⟨⟨at_.toNat, by go_num, by omega⟩, rfl⟩
      case rest =>
        obtain ⟨⟨k, rfl, hk⟩, hw⟩ := hcut
        obtain rfl := hw.symm
        obtain ⟨K, hK⟩ : ∃ K, K = k % txt.size := ⟨_, rfl⟩
        have hKlt : K < txt.size := by rw [hK]; exact Nat.mod_lt k (by omega)
        have hkk : (k : Int) % (txt.size : Int) = (K : Int) := by rw [hK]; exact (Int.natCast_emod k txt.size).symm
        have hKI : (K : Int) < (txt.size : Int) := by omega
        have hKa : K < (WM.all L).length := by rw [← HTZ.out]; exact hKlt
        have hwin : WM.within L K < m.length := by
          have h1 := WM.within_le L K
          have h2 := WM.within_len L K
          rw [HB.out.len] at h1
          rcases Nat.lt_or_ge (WM.within L K) m.length with h | h
          · exact h
          · rw [List.take_of_length_le (by rw [HB.out.len]; exact h)] at h2
            omega
        have hw1 := WM.within_len L K
        have hw2 : ∀ q, q < m.length → (WM.all (L.take (q + 1))).length ≤ K → q + 1 ≤ WM.within L K := fun q hq h => WM.le_within L K (q + 1) (by rw [HB.out.len]; exact hq) h
        have htrn : ∀ y : UInt8, y ≠ (WM.all L)[K] → (WM.all (L.take (WM.within L K))).length + 4 ≤ K → WM.recs ((WM.all L).set K y) = (L.take (WM.within L K), (WM.all (L.take (WM.within L K))).length) := fun y hy h4 => WM.recs_turned L K y hKa HB.out.fits hy h4
        have HW1 := Lib.hid hw1
        have HW2 := Lib.hid hw2
        have HTRN := Lib.hid htrn
        have HKA := Lib.hid hKa
        have hzp : ¬ (txt.size : Int) = 0 := by omega
        clear hK hw1 hw2 htrn hz htz
        go_wp2_with fail
        obtain ⟨wo, rfl⟩ : ∃ wo : World, wo = wr := ⟨_, rfl⟩
        go_loop [15] (fun u => ∃ q : Nat, q ≤ WM.within L K ∧ u = .int .i64 q) (fun u => m.length - (intOf u).toNat)
        case atStart => exact ⟨0, Nat.zero_le _, rfl⟩
        case round =>
          obtain ⟨q, hq, rfl⟩ := hrel
          obtain ⟨ge, rfl, hce2⟩ := HEND.out q (by omega)
          have hqI : (q : Int) < (m.length : Int) := by omega
          by_cases hle : (WM.all (L.take (q + 1))).length ≤ K
          · have hnx := HW2.out q (by omega) hle
            have HNX := Lib.hid hnx
            obtain ⟨z, hz⟩ : ∃ z, z = (WM.all (L.take (q + 1))).length := ⟨_, rfl⟩
            rw [← hz] at hce2 hle
            have hleI : (z : Int) ≤ (K : Int) := by omega
            clear hnx hz
            go_wp2_with fail
            go_round
            case rel => exact ⟨q + 1, HNX.out, by go_num⟩
            case measure => simp [intOf]; omega
          · have hqe : q = WM.within L K := by
              rcases Nat.lt_or_ge q (WM.within L K) with h | h
              · have h1 := WM.all_take_mono L (show q + 1 ≤ WM.within L K by omega)
                have := HW1.out
                omega
              · omega
            have HQ := Lib.hid hqe
            have hst : (WM.all (L.take q)).length ≤ K := by rw [hqe]; exact HW1.out
            have HST := Lib.hid hst
            obtain ⟨z, hz⟩ : ∃ z, z = (WM.all (L.take (q + 1))).length := ⟨_, rfl⟩
            rw [← hz] at hce2 hle
            have hleI : ¬ (z : Int) ≤ (K : Int) := by omega
            clear hqe hz hst
            go_upto_if 75 with (fail)
            go_cut [16] (fun s16 wx => s16 = .int .i64 ((WM.all (L.take q)).length : Int) ∧ wx = wo)
            case first =>
              by_cases hq0 : q = 0
              · subst hq0
                go_wp2
                go_meet
                exact ⟨by simp [WM.all], rfl⟩
              · obtain ⟨p, rfl⟩ : ∃ p, q = p + 1 := ⟨q - 1, by omega⟩
                obtain ⟨ge', hge', hce3⟩ := HEND.out p (by omega)
                cases hge'
                have hp1 : ((p + 1 : Nat) : Int) - 1 = (p : Int) := by omega
                have hp0 : (0 : Int) < ((p + 1 : Nat) : Int) := by omega
                go_wp2
                go_meet
                exact ⟨rfl, rfl⟩
            case rest =>
              obtain ⟨rfl, hw⟩ := hcut
              obtain rfl := hw.symm
              obtain ⟨p, hp⟩ : ∃ p, p = (WM.all (L.take q)).length := ⟨_, rfl⟩
              have HP := Lib.hid hp
              have hpK : (p : Int) ≤ (K : Int) := by have := HST.out; omega
              rw [← hp]
              clear hp
              by_cases h4 : (K : Int) - (p : Int) < 4
              · go_wp2_with fail
                go_ret
                exact ⟨rfl, HT2.out.trans HT.out (by simp)⟩
              · have hpK4 : (WM.all (L.take (WM.within L K))).length + 4 ≤ K := by rw [← HQ.out, ← HP.out]; omega
                have HPK := Lib.hid hpK4
                have hcv := fun w s => run_bytes_of_string (P := Try.prog) w 9 31 5 s Try.underlying9 Try.underlying31 Try.underlying5
                clear hpK4
                go_upto_region 28 with (fail)
                obtain ⟨cw, hcw⟩ : ∃ cw, cw = grownCap wo txt.size 0 5 := ⟨_, rfl⟩
                rw [← hcw]
                obtain ⟨w4, hw4⟩ : ∃ w4, w4 = (wo.alloc (Obj.cells (bytesRow txt cw) 5 ((bytesRow txt cw).size, (bytesRow txt cw).size + 1))).drew := ⟨_, rfl⟩
                rw [← hw4]
                have T4 : Touch [] wo w4 := by rw [hw4]; exact ((Touch.refl [] wo).alloc _).drew_
                have hcb : ∀ j (hj : j < txt.data.size), w4.cell? ⟨wo.heap.size, j, none⟩ = some (.int .u8 (txt.data[j].toNat : Int)) := fun j hj => by
                  rw [hw4]
                  exact (World.cell?_alloc_mark wo _ _ _ j).trans (bytesRow_at txt cw j hj)
                have hfz : ∀ j, j < txt.data.size → w4.frozen? ⟨wo.heap.size, j, none⟩ = false := fun j hj => by
                  rw [hw4]
                  refine (World.frozen?_alloc_mark wo _ _ _ _ j).trans ?_
                  have : j < (bytesRow txt cw).size := by unfold bytesRow; rw [Array.size_append, Array.size_map]; omega
                  simp; omega
                have hbc : txt.size ≤ cw := by rw [hcw]; exact grownCap_ge _ _ _ _
                obtain ⟨G, hG⟩ : ∃ G, G = wo.heap.size := ⟨_, rfl⟩
                rw [← hG] at hcb hfz ⊢
                have hKd : K < txt.data.size := hKlt
                have hlc := hcb K hKd
                have hlf := hfz K hKd
                obtain ⟨bK, hbK⟩ : ∃ bK, bK = txt.data[K] := ⟨_, rfl⟩
                rw [← hbK] at hlc
                have hy : ∃ y : UInt8, bits .xor .u8 (bK.toNat : Int) (tn : Int) = (y.toNat : Int) ∧ y ≠ bK := by
                  have h1 := bK.toNat_lt
                  have h2 : bK.toNat ^^^ tn < 256 := Nat.xor_lt_two_pow (n := 8) h1 htn
                  refine ⟨UInt8.ofNat (bK.toNat ^^^ tn), ?_, ?_⟩
                  · rw [bx_u8 _ _ h1 htn, UInt8.toNat_ofNat', Nat.mod_eq_of_lt h2]
                  · intro h
                    have h3 := congrArg UInt8.toNat h
                    rw [UInt8.toNat_ofNat', Nat.mod_eq_of_lt h2] at h3
                    have h4 : bK.toNat ^^^ tn = bK.toNat ^^^ 0 := by rw [h3, Nat.xor_zero]
                    have h5 := WM.xor_cancel h4
                    have h6 := beq_eq_false_iff_ne.1 htzI2
                    exact h6 h5
                obtain ⟨y, hy1, hy2⟩ := hy
                have htb : bs txt = WM.all L := by rw [HTXT.out, bs_ofBs]
                have hyK : y ≠ (WM.all L)[K]'HKA.out := by
                  intro e
                  apply hy2
                  rw [e, hbK]
                  have : (WM.all L)[K]? = some txt.data[K] := by rw [← htb]; unfold bs; rw [Array.getElem?_toList, Array.getElem?_eq_getElem hKd]
                  rw [List.getElem?_eq_getElem HKA.out] at this
                  exact Option.some.inj this
                have hrr := HTRN.out y hyK HPK.out
                obtain ⟨w5, hw5⟩ : ∃ w5, w5 = w4.setCell ⟨G, K, none⟩ (.int .u8 (y.toNat : Int)) := ⟨_, rfl⟩
                have T5 : Touch [] wo w5 := by rw [hw5]; exact T4.setCell _ _ (.inr (by rw [hG]; exact Nat.le_refl _))
                have hlen : ((WM.all L).set K y).length = txt.size := by rw [List.length_set]; exact HTZ.out.symm
                have hback : (convert 31 9 (.slice (some ⟨G, 0, none⟩) txt.size cw)).run Try.prog w5 = .ok (.string (ofBs ((WM.all L).set K y))) w5 := by
                  have := run_convert_bytes_back (P := Try.prog) w5 31 9 5 ⟨G, 0, none⟩ cw ((WM.all L).set K y) Try.underlying31 Try.underlying5 Try.underlying9 (fun j hj => by
                    rw [add_none, Nat.zero_add]
                    have hj2 : j < (WM.all L).length := by simpa using hj
                    have hj3 : j < txt.data.size := by have := HTZ.out; show j < txt.size; omega
                    have hat : (WM.all L)[j] = txt.data[j] := by
                      have : (WM.all L)[j]? = some txt.data[j] := by rw [← htb]; unfold bs; rw [Array.getElem?_toList, Array.getElem?_eq_getElem hj3]
                      rw [List.getElem?_eq_getElem hj2] at this
                      exact Option.some.inj this
                    rw [hw5, List.getElem_set]
                    by_cases e : K = j
                    · subst e
                      rw [if_pos rfl]
                      exact World.cell?_setCell_same' w4 _ _ (by rw [hlc]; rfl)
                    · rw [if_neg e, hat]
                      exact (World.cell?_setCell_other _ _ _ _ (by intro e2; exact e (by injection e2 with _ e3 _))).trans (hcb j hj3))
                  rw [hlen] at this
                  exact this
                have hrec := records_any w5 (ofBs ((WM.all L).set K y)) (by rw [ofBs_size, hlen]; omega)
                rw [bs_ofBs, hrr] at hrec
                simp only at hrec
                rw [← HQ.out, cut_same HB.out q, ← HP.out] at hrec
                have hqm : q ≤ m.length := by omega
                have hqI : (q : Int) ≤ (m.length : Int) := by omega
                have hqc : (q : Int) ≤ (cm : Int) := by omega
                have hqc2 : q ≤ cm := by omega
                have hys : Texts wo am (m.take q) := ((HTX.out.touch HT.out).texts).take q
                have hyl : (m.take q).length = q := by rw [List.length_take]; omega
                have hps : ((p : Int) == (p : Int)) = true := by simp
                have hbcI : (txt.size : Int) ≤ (cw : Int) := by omega
                have HYS := Lib.hid hys
                have HYL := Lib.hid hyl
                have HREC := Lib.hid hrec
                have HW5 := Lib.hid hw5
                have HY1 := Lib.hid hy1
                have HT5 := Lib.hid T5
                obtain ⟨turned, htu⟩ : ∃ s, s = ofBs ((WM.all L).set K y) := ⟨_, rfl⟩
                rw [← htu] at hback HREC
                have HBACK := Lib.hid hback
                clear hys hyl hrec hw5 hcb hfz hG hcw hw4 T4 T5 hlen hback hrr hyK hy2 htb hbK hcv htu hy1
                go_upto_region 29 with (fail)
                rw [HY1.out, ← HW5.out]
                have hback := HBACK.out
                go_wp2_with fail
                refine HREC.out.mono ?_
                rintro e w6 ⟨v6, rfl, hR6, T6⟩
                obtain ⟨a6, c6, rfl, _, _, htx6⟩ := hR6.open
                have hsa := fun c => same_any w6 a6 am c6 c (m.take q) (m.take q) htx6.texts (HYS.out.touch (HT5.out.trans T6 (by simp))) (by rw [HYL.out]; omega) (by rw [HYL.out]; omega)
                rw [sameB_refl, HYL.out] at hsa
                rw [HYL.out]
                have HSA := Lib.hid hsa
                have HT6 := Lib.hid (HT2.out.trans (HT.out.trans (HT5.out.trans T6 (by simp)) (by simp)) (by simp))
                clear hsa T6 hR6 htx6 hback
                go_wp2_with fail
                refine (HSA.out _).mono ?_
                rintro e w7 ⟨rfl, j, rfl⟩
                go_wp2_with fail
                go_ret
                exact ⟨rfl, HT6.out.drewN_ j⟩
theorem turned_walk (a : Option Addr) (l c : Nat) (at_ tn : Int) (w : World) (h : Rd w 27 [.slice a l c]) (hat : (Lit.int .i64 at_).wf = true) (htn : (Lit.int .u8 tn).wf = true) :
    Calls Try.prog 4 #[.slice a l c, .int .i64 at_, .int .u8 tn] w fun e w' => e = .returned (.bool true) ∧ Touch [] w w' := by
  obtain ⟨ss, rfl, hl, hc, ht, hs⟩ := texts_in h
  have hb : 0 ≤ tn ∧ tn ≤ 255 := by
    simp only [Lit.wf, Bool.and_eq_true, decide_eq_true_eq] at htn
    have h2 : IntKind.u8.max = 255 := rfl
    have h3 : IntKind.u8.min = 0 := rfl
    omega
  obtain ⟨n, rfl⟩ := Int.eq_ofNat_of_zero_le hb.1
  exact turned_w w a c ss at_ n (by omega) hat ht (by omega) hs
end Go.Proofs.Ytmglkhnojimnlaa

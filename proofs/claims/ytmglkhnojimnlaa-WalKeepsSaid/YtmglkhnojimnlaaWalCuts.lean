/- law10: WalCuts. -/
import Derived.Test.YtmglkhnojimnlaaWalAwake
import Derived.Deep.DeepCutAuto
namespace Go.Proofs.Ytmglkhnojimnlaa
open Go.RowKit Go.Maps

/-- where records end -/
def endsL (L : List WM.Bs) (i : Nat) : List Value := (List.range i).map fun j => .int .i64 ((WM.all (L.take (j + 1))).length : Int)
def EndRow (w : World) (B : Nat) (v : Value) (L : List WM.Bs) (i : Nat) : Prop := w.ownsRow B 3 1 v i (endsL L i)
theorem endsL_succ (L : List WM.Bs) (i : Nat) : endsL L (i + 1) = endsL L i ++ [.int .i64 ((WM.all (L.take (i + 1))).length : Int)] := by
  unfold endsL
  rw [List.range_succ, List.map_append]
  rfl
theorem EndRow.at_ {w : World} {B : Nat} {v : Value} {L : List WM.Bs} {n : Nat} (h : EndRow w B v L n) : ∃ a cap, v = .slice a n cap ∧ n ≤ cap ∧ cap ≤ maxLen ∧ ∀ i, i < n → ∃ g, a = some ⟨g, 0, none⟩ ∧ w.cell? ⟨g, i, none⟩ = some (.int .i64 ((WM.all (L.take (i + 1))).length : Int)) := by
  have hh := h
  obtain ⟨hl, hr⟩ := h
  rcases hr with ⟨rfl, h2⟩ | ⟨g, cap, cur, rfl, h1, h2, h3, h4, h5, h6⟩
  · exact ⟨none, 0, by rw [h2], by omega, Nat.zero_le _, fun i hi => by omega⟩
  · refine ⟨_, cap, rfl, h3, h4, fun i hi => ⟨g, rfl, ?_⟩⟩
    have := hh.cells (g := g) rfl i (.int .i64 ((WM.all (L.take (i + 1))).length : Int)) (by simp [endsL, hi])
    rwa [add_none, Nat.zero_add] at this
/-- what the rows of records come to -/
structure Built (L : List WM.Bs) (m : List ByteArray) : Prop where
  eq : L = m.map bs
  few : m.length ≤ 8
  each : ∀ s ∈ m, s.size ≤ 200
theorem Built.len {L : List WM.Bs} {m : List ByteArray} (h : Built L m) : L.length = m.length := by rw [h.eq, List.length_map]
theorem Built.fits {L : List WM.Bs} {m : List ByteArray} (h : Built L m) : WM.Fits L := fun s hs => by
  rw [h.eq, List.mem_map] at hs
  obtain ⟨t, ht, rfl⟩ := hs
  rw [bs_length]
  have := h.each t ht; omega
theorem Built.small {L : List WM.Bs} {m : List ByteArray} (h : Built L m) : (WM.all L).length ≤ 1664 := by
  have h1 := lens_few L 200 (fun s hs => by
    rw [h.eq, List.mem_map] at hs
    obtain ⟨t, ht, rfl⟩ := hs
    rw [bs_length]
    exact h.each t ht)
  have h2 := h.few
  rw [h.len] at h1
  have h3 : m.length * 208 ≤ 8 * 208 := Nat.mul_le_mul_right _ h2
  omega
theorem Built.step {L : List WM.Bs} {m : List ByteArray} (h : Built L m) (i : Nat) (hi : i < m.length) : ofBs (WM.all (L.take i)) ++ recS m[i] = ofBs (WM.all (L.take (i + 1))) := by
  apply bs_inj
  rw [bs_append, bs_ofBs, bs_ofBs, bs_recS, all_snoc L i (by rw [h.len]; exact hi)]
  congr 2
  have : L[i]'(by rw [h.len]; exact hi) = bs m[i] := by have := h.eq; subst this; simp
  rw [this]
theorem Built.few_ (ss : List ByteArray) : Built ((fewL ss).map bs) (fewL ss) := ⟨rfl, fewL_len ss, fewL_each ss⟩
/-- texts that came in -/
theorem texts_in {w : World} {a : Option Addr} {len cap : Nat} (h : Rd w 27 [.slice a len cap]) : ∃ ss : List ByteArray, len = ss.length ∧ len ≤ cap ∧ cap ≤ maxLen ∧ Texts w a ss ∧ ∀ s ∈ ss, s.size ≤ maxLen := by
  obtain ⟨hl, hc, g, hg⟩ := h.texts
  refine ⟨(List.range len).map g, by simp, hl, hc, fun i hi => ?_, fun s hs => ?_⟩
  · obtain ⟨blk, off, e, h0, h1⟩ := hg i (by simpa using hi)
    exact ⟨blk, off, e, by simpa using h0⟩
  · simp only [List.mem_map, List.mem_range] at hs
    obtain ⟨i, hi, rfl⟩ := hs
    obtain ⟨blk, off, e, h0, h1⟩ := hg i hi
    exact h1
theorem recs_cutS (L : List WM.Bs) (K : Nat) (hf : WM.Fits L) (hK : K ≤ (WM.all L).length) : WM.recs (bs ((ofBs (WM.all L)).extract 0 K)) = (L.take (WM.within L K), (WM.all (L.take (WM.within L K))).length) := by
  rw [LM.bs_take, bs_ofBs, WM.recs_cut L K hf]
theorem Texts.take {w : World} {a : Option Addr} {m : List ByteArray} (h : Texts w a m) (q : Nat) : Texts w a (m.take q) := fun i hi => by
  obtain ⟨blk, off, e, hc⟩ := h i (by rw [List.length_take] at hi; omega)
  exact ⟨blk, off, e, by rw [List.getElem_take]; exact hc⟩
theorem cut_same {L : List WM.Bs} {m : List ByteArray} (h : Built L m) (q : Nat) : (L.take q).map ofBs = m.take q := by
  rw [h.eq, ← List.map_take, List.map_map]
  conv => rhs; rw [← List.map_id (m.take q)]
  exact List.map_congr_left (fun s _ => ofBs_bs s)
set_option maxRecDepth 10000 in
set_option maxHeartbeats 3200000 in
theorem cuts_w (w : World) (a : Option Addr) (cap : Nat) (ss : List ByteArray) (at_ : Int) (hat : (Lit.int .i64 at_).wf = true) (ht : Texts w a ss) (hl : ss.length ≤ maxLen) (hs : ∀ s ∈ ss, s.size ≤ maxLen) :
    Calls Try.prog 5 #[.slice a ss.length cap, .int .i64 at_] w fun e w' => e = .returned (.bool true) ∧ Touch [] w w' := by
  obtain ⟨hat0, hat1⟩ := wf64_le hat
  have hfew := fun W (T : Touch [] w W) => few_any W a cap ss (ht.touch T) hl hs
  have hB := Built.few_ ss
  have HFEW := Lib.hid hfew
  obtain ⟨i0, hi, hz0, hz1, hz2⟩ := info_parts infoInt
  have HI := Lib.hid (And.intro hi (And.intro hz0 (And.intro hz1 hz2)))
  obtain ⟨m, hm⟩ : ∃ m, m = fewL ss := ⟨_, rfl⟩
  rw [← hm] at hB HFEW
  obtain ⟨L, hL⟩ : ∃ L, L = m.map bs := ⟨_, rfl⟩
  rw [← hL] at hB
  have HB := Lib.hid hB
  have hm8 := hB.few
  have hm8I : (m.length : Int) ≤ 8 := by omega
  clear hfew hB ht hl hs hi hz0 hz1 hz2 hm hL hat
  go_enter Try.func5, Try.ntmps5
  go_wp2_with fail
  refine (awake_any _).mono ?_
  rintro e w1 ⟨rfl, T1⟩
  go_wp2_with fail
  refine (HFEW.out w1 T1).mono ?_
  rintro e w2 ⟨v2, rfl, hR, T2⟩
  obtain ⟨am, cm, rfl, hcm, hcm2, htx⟩ := hR.open
  unfold maxLen at hcm2
  have HTX := Lib.hid htx
  have HT2 := Lib.hid (T1.trans T2 (by simp))
  have hcmI : (m.length : Int) ≤ (cm : Int) := by omega
  have hcmI2 : (cm : Int) ≤ 9223372036854775807 := by omega
  clear hR T1 T2 htx
  go_wp2_with fail
  go_loopw [7, 8, 9] (fun s7 s8 u wr => ∃ (i : Nat) (v : Value), v = s8 ∧ u = .int .i64 i ∧ i ≤ m.length ∧ s7 = .string (ofBs (WM.all (L.take i))) ∧ EndRow wr w2.heap.size v L i ∧ Touch [] w2 wr) (fun _ _ u _ => m.length - (intOf u).toNat)
  case atStart => exact ⟨0, _, rfl, rfl, Nat.zero_le _, rfl, World.ownsRow_nil _ _ _ _, Touch.refl _ _⟩
  case round =>
    obtain ⟨i, v, rfl, rfl, hi, rfl, hE, hT⟩ := hrel
    have HE := Lib.hid hE
    have HT := Lib.hid hT
    clear hE hT
    by_cases hlt : i < m.length
    · obtain ⟨blk, off, rfl, hc⟩ := HTX.out.texts i hlt
      have hcr := HT.out.cell hc (by simp)
      have hrec := fun W => record_any W m[i] (by have := HB.out.each _ (List.getElem_mem hlt); unfold maxLen; omega)
      rw [if_pos (by have := HB.out.each _ (List.getElem_mem hlt); omega), if_pos (by have := HB.out.each _ (List.getElem_mem hlt); omega)] at hrec
      have hcat := HB.out.step i hlt
      have hmono := WM.all_take_mono L (show i + 1 ≤ L.length by rw [HB.out.len]; exact hlt)
      have hsm := HB.out.small
      rw [List.take_length] at hmono
      have hsz : ((ofBs (WM.all (L.take i)) ++ recS m[i]).size : Int) = ((WM.all (L.take (i + 1))).length : Int) := by rw [hcat, ofBs_size]
      have hszn : (ofBs (WM.all (L.take i)) ++ recS m[i]).size ≤ 1664 := by rw [hcat, ofBs_size]; omega
      have hsc := endsL_succ L i
      rw [← hsz] at hsc
      obtain ⟨s, hse⟩ : ∃ s, s = m[i] := ⟨_, rfl⟩
      rw [← hse] at hcr hrec hcat hszn hsc
      obtain ⟨r, hre⟩ : ∃ r, r = recS s := ⟨_, rfl⟩
      rw [← hre] at hrec hcat hszn hsc
      obtain ⟨x, hx⟩ : ∃ x, x = ofBs (WM.all (L.take i)) := ⟨_, rfl⟩
      rw [← hx] at hcat hszn hsc ⊢
      have HREC := Lib.hid hrec
      have HCAT := Lib.hid hcat
      have HSC := Lib.hid hsc
      have hadd : (x ++ r).size = x.size + r.size := by simp
      rw [hadd] at hszn HSC
      clear hrec hcat hsc hmono hsm hsz hse hre hx hc hadd
      go_wp2_with (first | (go_at_call 11; refine (HREC.out _).mono ?_; rintro e w3 ⟨rfl, T3⟩; have HT3 := Lib.hid (HT.out.trans T3 (by simp)); have HE3 := Lib.hid (row_far HE.out T3 (by simp)); clear T3) | (at_builtin; refine wpList_append_own _ rfl (.tmp 38) (.tmp 41) 34 rfl w2.heap.size 3 i0 _ 1 8 Try.underlying34 HI.out.1 HI.out.2.1 HI.out.2.2.1 HI.out.2.2.2 rfl (by decide) v i _ rfl (HE3.out.alloc _) ⟨w3.heap.size, 0, none⟩ 1 1 [.int .i64 ((x.size + r.size : Nat) : Int)] rfl rfl (cell_one_new _ _ _) (by simp [Value.oneCell']) (by unfold maxLen; omega) (by omega) (by have := HT3.out.size; simp; omega) ?_; intro v' w4 hown' hgrow _; obtain ⟨g', cap', rfl⟩ := ownsRow_succ hown'))
      have hE4 : EndRow w4 w2.heap.size (.slice (some ⟨g', 0, none⟩) (i + 1) cap') L (i + 1) := by unfold EndRow; rw [HSC.out]; exact hown'
      have T4 : Touch [] w2 w4 := (HT3.out.alloc _).trans (Touch.of_grown hgrow) (fun k hk => .inr (HE3.out.lt k (by simpa using hk)).1)
      have HE4 := Lib.hid hE4
      have HT4 := Lib.hid T4
      clear hE4 T4 hown' hgrow
      go_roundw
      case rel => exact ⟨i + 1, _, rfl, by go_num, by omega, by rw [HCAT.out], HE4.out, HT4.out⟩
      case measure => simp [intOf]; omega
    · obtain rfl : i = m.length := by omega
      have hie : L.take m.length = L := List.take_of_length_le (by rw [HB.out.len]; omega)
      rw [hie]
      have hsm := HB.out.small
      have hl8 := lens_le L
      rw [HB.out.len] at hl8
      obtain ⟨ae, ce, rfl, hce, hcm3, hend⟩ := HE.out.at_
      unfold maxLen at hcm3
      have HEND := Lib.hid hend
      have hrs := fun K (hK : K ≤ (WM.all L).length) => recs_cutS L K HB.out.fits hK
      have HRS := Lib.hid hrs
      have htz : (ofBs (WM.all L)).size = (WM.all L).length := ofBs_size _
      rw [← htz] at hsm hl8
      have HTZ := Lib.hid htz
      obtain ⟨txt, htxt⟩ : ∃ txt, txt = ofBs (WM.all L) := ⟨_, rfl⟩
      rw [← htxt] at hsm hl8 HRS HTZ ⊢
      have hsmI : (txt.size : Int) ≤ 1664 := by omega
      have hl8I : 8 * (m.length : Int) ≤ (txt.size : Int) := by omega
      clear hie hend hrs htz htxt hce hcm3
      go_upto_if 45 with (fail)
      go_cut [12] (fun s12 wx => (∃ k : Nat, s12 = .int .i64 k ∧ (k : Int) ≤ 9223372036854775807) ∧ wx = wr)
      case first =>
        by_cases hneg : at_ < 0
        · go_wp2
          go_meet
          exact ⟨⟨(-(at_ + 1)).toNat, by go_num, by omega⟩, rfl⟩
        · go_wp2
          go_meet
          exact ⟨⟨at_.toNat, by go_num, by omega⟩, rfl⟩
      case rest =>
        obtain ⟨⟨k, rfl, hk⟩, hw⟩ := hcut
        obtain rfl := hw.symm
        obtain ⟨K, hK⟩ : ∃ K, K = k % (txt.size + 1) := ⟨_, rfl⟩
        have hKle : K ≤ txt.size := by have := Nat.mod_lt k (show 0 < txt.size + 1 by omega); omega
        have hkk : (k : Int) % ((txt.size : Int) + 1) = (K : Int) := by rw [hK]; exact (Int.natCast_emod k (txt.size + 1)).symm
        have hKI : (K : Int) ≤ (txt.size : Int) := by omega
        have hwin := WM.within_le L K
        have hw1 := WM.within_len L K
        have hw2 : ∀ q, q < m.length → (WM.all (L.take (q + 1))).length ≤ K → q + 1 ≤ WM.within L K := fun q hq h => WM.le_within L K (q + 1) (by rw [HB.out.len]; exact hq) h
        rw [HB.out.len] at hwin
        have HW1 := Lib.hid hw1
        have HW2 := Lib.hid hw2
        have HRK := Lib.hid (HRS.out K (by have := HTZ.out; omega))
        clear hK hw1 hw2
        go_wp2_with fail
        obtain ⟨wo, rfl⟩ : ∃ wo : World, wo = wr := ⟨_, rfl⟩
        go_loop [13, 14] (fun u v => ∃ q : Nat, q ≤ WM.within L K ∧ u = .int .i64 q ∧ v = .int .i64 ((WM.all (L.take q)).length : Int)) (fun u _ => m.length - (intOf u).toNat)
        case atStart => exact ⟨0, Nat.zero_le _, rfl, by simp [WM.all]⟩
        case round =>
          obtain ⟨q, hq, rfl, rfl⟩ := hrel
          by_cases hlt2 : q < m.length
          · obtain ⟨ge, rfl, hce⟩ := HEND.out q hlt2
            by_cases hle : (WM.all (L.take (q + 1))).length ≤ K
            · have hnx := HW2.out q hlt2 hle
              have HNX := Lib.hid hnx
              obtain ⟨z, hz⟩ : ∃ z, z = (WM.all (L.take (q + 1))).length := ⟨_, rfl⟩
              rw [← hz] at hce hle
              have HZ := Lib.hid hz
              have hleI : (z : Int) ≤ (K : Int) := by omega
              clear hnx hz
              go_wp2_with fail
              go_round
              case rel => exact ⟨q + 1, HNX.out, by go_num, by rw [HZ.out]⟩
              case measure => simp [intOf]; omega
            · have hqe : q = WM.within L K := by
                rcases Nat.lt_or_ge q (WM.within L K) with h | h
                · have h1 := WM.all_take_mono L (show q + 1 ≤ WM.within L K by omega)
                  have := HW1.out
                  omega
                · omega
              have HQ := Lib.hid hqe
              obtain ⟨z, hz⟩ : ∃ z, z = (WM.all (L.take (q + 1))).length := ⟨_, rfl⟩
              rw [← hz] at hce hle
              have hleI : ¬ (z : Int) ≤ (K : Int) := by omega
              clear hqe hz
              have hqm : q ≤ m.length := by omega
              have hqI : (q : Int) ≤ (m.length : Int) := by omega
              have hqc : (q : Int) ≤ (cm : Int) := by omega
              have hqc2 : q ≤ cm := by omega
              have HRQ := Lib.hid (HRK.out)
              rw [← HQ.out] at HRQ
              have hys : Texts wo am (m.take q) := ((HTX.out.touch HT.out).texts).take q
              have hyl : (m.take q).length = q := by rw [List.length_take]; omega
              have hxs := cut_same HB.out q
              obtain ⟨p, hp⟩ : ∃ p, p = (WM.all (L.take q)).length := ⟨_, rfl⟩
              rw [← hp] at HRQ ⊢
              have hps : ((p : Int) == (p : Int)) = true := by simp
              have HYS := Lib.hid hys
              have HYL := Lib.hid hyl
              have HXS := Lib.hid hxs
              have hrec := records_any wo (txt.extract 0 K) (by rw [ByteArray.size_extract]; omega)
              rw [HRQ.out] at hrec
              simp only at hrec
              rw [hxs] at hrec
              have HREC := Lib.hid hrec
              clear hys hyl hxs hp hrec
              go_wp2_with fail
              refine HREC.out.mono ?_
              rintro e w5 ⟨v5, rfl, hR5, T5⟩
              obtain ⟨a5, c5, rfl, _, _, htx5⟩ := hR5.open
              have hsa := fun c => same_any w5 a5 am c5 c (m.take q) (m.take q) htx5.texts (HYS.out.touch T5) (by rw [HYL.out]; omega) (by rw [HYL.out]; omega)
              rw [HYL.out] at hsa
              rw [sameB_refl, HYL.out] at *
              have HSA := Lib.hid hsa
              have HT5 := Lib.hid (HT2.out.trans (HT.out.trans T5 (by simp)) (by simp))
              clear hsa T5 hR5 htx5
              go_wp2_with fail
              refine (HSA.out _).mono ?_
              rintro e w6 ⟨rfl, j, rfl⟩
              go_wp2_with fail
              go_ret
              exact ⟨rfl, HT5.out.drewN_ j⟩
          · have hqe : q = WM.within L K := by omega
            have HQ := Lib.hid hqe
            clear hqe
            have hqm : q ≤ m.length := by omega
            have hqI : (q : Int) ≤ (m.length : Int) := by omega
            have hqc : (q : Int) ≤ (cm : Int) := by omega
            have hqc2 : q ≤ cm := by omega
            have HRQ := Lib.hid (HRK.out)
            rw [← HQ.out] at HRQ
            have hys : Texts wo am (m.take q) := ((HTX.out.touch HT.out).texts).take q
            have hyl : (m.take q).length = q := by rw [List.length_take]; omega
            have hxs := cut_same HB.out q
            obtain ⟨p, hp⟩ : ∃ p, p = (WM.all (L.take q)).length := ⟨_, rfl⟩
            rw [← hp] at HRQ ⊢
            have hps : ((p : Int) == (p : Int)) = true := by simp
            have HYS := Lib.hid hys
            have HYL := Lib.hid hyl
            have HXS := Lib.hid hxs
            have hrec := records_any wo (txt.extract 0 K) (by rw [ByteArray.size_extract]; omega)
            rw [HRQ.out] at hrec
            simp only at hrec
            rw [hxs] at hrec
            have HREC := Lib.hid hrec
            clear hys hyl hxs hp hrec
            go_wp2_with fail
            refine HREC.out.mono ?_
            rintro e w5 ⟨v5, rfl, hR5, T5⟩
            obtain ⟨a5, c5, rfl, _, _, htx5⟩ := hR5.open
            have hsa := fun c => same_any w5 a5 am c5 c (m.take q) (m.take q) htx5.texts (HYS.out.touch T5) (by rw [HYL.out]; omega) (by rw [HYL.out]; omega)
            rw [HYL.out] at hsa
            rw [sameB_refl, HYL.out] at *
            have HSA := Lib.hid hsa
            have HT5 := Lib.hid (HT2.out.trans (HT.out.trans T5 (by simp)) (by simp))
            clear hsa T5 hR5 htx5
            go_wp2_with fail
            refine (HSA.out _).mono ?_
            rintro e w6 ⟨rfl, j, rfl⟩
            go_wp2_with fail
            go_ret
            exact ⟨rfl, HT5.out.drewN_ j⟩
theorem cuts_walk (a : Option Addr) (l c : Nat) (at_ : Int) (w : World) (h : Rd w 27 [.slice a l c]) (hat : (Lit.int .i64 at_).wf = true) :
    Calls Try.prog 5 #[.slice a l c, .int .i64 at_] w fun e w' => e = .returned (.bool true) ∧ Touch [] w w' := by
  obtain ⟨ss, rfl, hl, hc, ht, hs⟩ := texts_in h
  exact cuts_w w a c ss at_ hat ht (by omega) hs
end Go.Proofs.Ytmglkhnojimnlaa

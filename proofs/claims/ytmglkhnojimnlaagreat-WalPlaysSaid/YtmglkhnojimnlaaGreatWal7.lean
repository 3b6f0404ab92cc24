/- Package wal: Append, Sync. -/
import Derived.Test.YtmglkhnojimnlaaGreatWal6
namespace Go.Proofs.YtmglkhnojimnlaaGreat
open Go.RowKit Go.Maps

theorem all_nil_iff (l : List WM.Bs) : WM.all l = [] ↔ l = [] := by
  cases l with
  | nil => simp [WM.all]
  | cons s l =>
    have h := lens_le (s :: l)
    constructor
    · intro e; rw [e] at h; simp at h
    · intro e; cases e
set_option maxRecDepth 10000 in
set_option maxHeartbeats 1600000 in
theorem wappend_any {w : World} {S D : List Nat} {sv : Value} {g b n : Nat} {x : LM.L} (h : WalAt w S D sv g b n x) (hn : n < 1099511627775) (a : Option Addr) (cap : Nat) (ss : List ByteArray) (hT : TextsB w a ss)
    (hf : WM.Fits (ss.map bs)) (hsm : (WM.all (x.l ++ ss.map bs)).length ≤ 1099511627776) (hu : DM.used x.d.fl + (WM.all (ss.map bs)).length ≤ 1099511627776) :
    Calls Tryz.prog 19 #[.pointer (some ⟨g, 0, none⟩), .slice a ss.length cap] w (WEnds S g b (n + 2) w (LM.append x (ss.map bs))) := by
  have hrd := wready_any h
  have HRD := Lib.hid hrd
  have hE : ∀ W, Touch [] w W → ∀ k, WEnds S g b (n + 2) w (k, x) (.returned (.int .i64 k)) W := fun W T k => ⟨rfl, WGood.same h T⟩
  have HE := Lib.hid hE
  have hsm2 : (WM.all (ss.map bs)).length ≤ 1099511627776 := by rw [WM.all_append, List.length_append] at hsm; omega
  have hln : ss.length ≤ 137438953472 := by have := lens_le (ss.map bs); rw [List.length_map] at this; omega
  have hlb : (ss.length : Int) ≤ 137438953472 := by omega
  have hwh := whole_any w a cap ss hT.texts hf hsm2
  have HWH := Lib.hid hwh
  clear hrd hE hwh hln
  by_cases hb : x.broken = true
  · have he : LM.append x (ss.map bs) = (13, x) := by unfold LM.append; rw [if_pos hb]
    rw [he]
    rw [if_pos hb] at HRD
    clear he hb h hT hf hsm hsm2 hu
    go_enter Tryz.func19, Tryz.ntmps19
    go_wp2_with fail
    refine HRD.out.mono ?_
    rintro e w' ⟨rfl, rfl⟩
    go_wp2_with fail
    go_ret
    exact HE.out _ (Touch.refl _ _) 13
  · have hb' : x.broken = false := by simpa using hb
    rw [if_neg hb] at HRD
    by_cases h0 : ss = []
    · have he : LM.append x (ss.map bs) = (0, x) := by unfold LM.append; rw [if_neg hb, if_pos (by rw [h0]; rfl)]
      rw [he]
      have hl0 : ss.length = 0 := by rw [h0]; rfl
      rw [hl0] at HWH ⊢
      clear he hb h hT hf hsm hsm2 hu hl0 hlb h0
      generalize ofBs (WM.all (ss.map bs)) = txt at HWH
      go_enter Tryz.func19, Tryz.ntmps19
      go_wp2_with fail
      refine HRD.out.mono ?_
      rintro e w' ⟨rfl, rfl⟩
      go_wp2_with fail
      refine HWH.out.mono ?_
      rintro e w1 ⟨rfl, T1⟩
      go_wp2_with fail
      go_ret
      exact HE.out _ T1 0
    · have hlp : 0 < ss.length := List.length_pos_iff.2 h0
      have hmn : ss.map bs ≠ [] := by simpa using h0
      obtain ⟨r, hr⟩ : ∃ r, r = DM.append x.d LM.walN (ofBs (WM.all (ss.map bs))) := ⟨_, rfl⟩
      have he : LM.append x (ss.map bs) = if r.1 = 0 then (0, { (LM.said x r).2 with l := x.l ++ ss.map bs }) else LM.said x r := by
        unfold LM.append
        rw [if_neg hb, if_neg hmn, ← hr]
        rfl
      have hda : ∀ W, Touch [] w W → Calls Tryz.prog 52 #[.pointer (some ⟨b, 0, none⟩), .string walS, .string (ofBs (WM.all (ss.map bs)))] W (DEnds D b n W r) := fun W T => by
        rw [hr]
        exact dappend (h.quiet T).disk hn walS _ (by decide) (by rw [ofBs_size]; exact hu)
      have hdt : ∀ W W', Touch [] w W → ∀ D', DiskF W' D' b (n + 2) r.2 → Touch D W W' → Fresh W D D' → WalAt W' (g :: (D' ++ sv.ownBlock.toList)) D' sv g b (n + 2) { x with d := r.2 } ∧ Touch S w W' ∧ Fresh w S (g :: (D' ++ sv.ownBlock.toList)) := fun W W' T D' hd ht hf => by
        refine ⟨(h.quiet T).turn hd ht, (T.mono (S' := S) (by simp)).trans ht (fun k hk => .inl (by rw [h.foot]; simp [hk])), fun k hk => ?_⟩
        rw [h.foot]
        rcases List.mem_cons.1 hk with rfl | hk
        · exact .inl (by simp)
        · rcases List.mem_append.1 hk with hk | hk
          · rcases hf k hk with h1 | h1
            · exact .inl (by simp [h1])
            · exact .inr (Nat.le_trans T.size h1)
          · exact .inl (by simp [hk])
      have c0 := fun W (T : Touch [] w W) => (h.quiet T).c0
      have HF := Lib.hid h.foots
      have HTB := Lib.hid hT
      have HSM := Lib.hid hsm
      have HDA := Lib.hid hda
      have HDT := Lib.hid hdt
      have HC := Lib.hid c0
      have HEQ := Lib.hid he
      obtain ⟨m, hm⟩ : ∃ m, m = ss.map bs := ⟨_, rfl⟩
      obtain ⟨txt, htxt⟩ : ∃ t, t = ofBs (WM.all (ss.map bs)) := ⟨_, rfl⟩
      rw [← htxt] at HWH HDA
      rw [← hm] at HEQ ⊢
      have HMM := Lib.hid hm
      clear he hb h hT hf hsm hsm2 hu hda hdt c0 hr htxt hm hmn h0 HE
      go_enter Tryz.func19, Tryz.ntmps19
      go_wp2_with fail
      refine HRD.out.mono ?_
      rintro e w' ⟨rfl, rfl⟩
      go_wp2_with fail
      refine HWH.out.mono ?_
      rintro e w1 ⟨rfl, T1⟩
      have c0 := HC.out w1 T1
      go_wp2_with fail
      refine (HDA.out w1 T1).mono ?_
      rintro e w2 ⟨rfl, D', hd2, ht2, hf2⟩
      obtain ⟨hw2, tt2, ff2⟩ := HDT.out w1 w2 T1 D' hd2 ht2 hf2
      have HW2 := Lib.hid hw2
      have HT2 := Lib.hid tt2
      have HF2 := Lib.hid ff2
      clear c0 hd2 ht2 hf2 hw2 tt2 ff2 T1
      go_wp2_with fail
      refine (wsaid_any HW2.out r.1).mono ?_
      rintro e w3 ⟨rfl, hw3, t3⟩
      have t3' := HT2.out.trans t3 (fun k hk => by simp at hk; subst hk; exact HF2.out _ (by simp))
      have HW3 := Lib.hid hw3
      have HT3 := Lib.hid t3'
      clear hw3 t3 t3'
      by_cases hr0 : r.1 = 0
      · have hk : KeepBut walTs w' w3 := KeepBut.of HF.out HT3.out
        have hh := have_any HW3.out a cap ss (HTB.out.keep hk (by decide)) HSM.out
        have HH := Lib.hid hh
        obtain ⟨rv, hrv⟩ : ∃ rv, rv = r.1 := ⟨_, rfl⟩
        rw [← hrv] at hr0 ⊢
        subst hr0
        have HRV := Lib.hid hrv
        clear hk hh hrv
        go_wp2_with fail
        refine HH.out.mono ?_
        rintro e w4 ⟨rfl, hg4⟩
        have HG4 := Lib.hid hg4
        clear hg4
        go_wp2_with fail
        go_ret
        rw [HEQ.out, if_pos HRV.out.symm]
        refine ⟨rfl, ?_⟩
        rw [HMM.out]
        exact HG4.out.trans HT3.out HF2.out
      · have hr0' : (r.1 == 0) = false := by simpa using hr0
        have HR0 := Lib.hid hr0
        clear hr0
        go_wp2_with fail
        go_ret
        rw [HEQ.out, if_neg HR0.out]
        exact ⟨rfl, _, D', sv, HW3.out, HT3.out, HF2.out⟩
end Go.Proofs.YtmglkhnojimnlaaGreat

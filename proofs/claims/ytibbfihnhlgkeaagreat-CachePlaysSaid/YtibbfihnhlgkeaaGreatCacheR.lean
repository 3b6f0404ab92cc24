/- container/heap: Remove. -/
import Derived.Test.YtibbfihnhlgkeaaGreatCacheQ
namespace Go.Proofs.YtibbfihnhlgkeaaGreat
open Go.RowKit Go.Maps Go.Shelf
open NM (Bs bs ofBs)
open CM (It C)

set_option maxRecDepth 10000 in
set_option maxHeartbeats 1600000 in
theorem hremove_any (w : World) (B : Nat) (cs : Array Value) (v : Value) (l : List It) (h : Hp w B cs v l) (i : Nat) (hi : i < l.length) (hl : l.length ≤ 1099511627776) (hcs : 2 < cs.size) :
    Calls Tryz.prog 49 #[.iface 82 (.pointer (some ⟨B, 2, none⟩)), .int .i64 (i : Int)] w fun e w' => (∃ v, e = .returned v) ∧
      ∃ v', Hp w' B (cs.setIfInBounds 2 v') v' (CM.remove l i) ∧ Touch (foot B v l) w w' ∧ v'.ownBlock = v.ownBlock := by
  obtain ⟨G, cap, rfl⟩ : ∃ G cap, v = .slice (some ⟨G, 0, none⟩) l.length cap := by
    rcases h.shape with ⟨rfl, rfl⟩ | h
    · simp at hi
    · exact h
  obtain ⟨_, hr, hs⟩ := h.row
  have hB := hs.ne hr
  have htf : ∀ {W W' : World}, Touch (G :: l.map It.g) W W' → Touch (foot B (.slice (some ⟨G, 0, none⟩) l.length cap) l) W W' := fun t => t.mono (fun q hq => .inl (by
    unfold foot
    simp only [List.mem_cons, List.mem_append] at hq ⊢
    rcases hq with h | h
    · right; left; rw [Option.mem_toList, h]; rfl
    · right; right; exact h))
  have hend : ∀ (W : World) (L : List It), L.length = l.length → Row W G cap L → Touch (G :: l.map It.g) w W → L.take (l.length - 1) = CM.remove l i →
      Calls Tryz.prog 126 #[.pointer (some ⟨B, 2, none⟩)] W fun e w' => (∃ v, e = .returned v) ∧ ∃ v', Hp w' B (cs.setIfInBounds 2 v') v' (CM.remove l i) ∧ Touch (foot B (.slice (some ⟨G, 0, none⟩) l.length cap) l) w w' ∧ v'.ownBlock = (Value.slice (some ⟨G, 0, none⟩) l.length cap).ownBlock := by
    intro W L hL hR hT hrm
    have hst := hs.touch hT hB
    refine (ipop_any W B G cap cs L (by rw [hL]; exact hst) hR (by omega) hcs).mono ?_
    rintro e w' ⟨h1, h2, h3, h4⟩
    rw [hL] at h2 h3
    rw [hrm] at h2
    have hlen : (CM.remove l i).length = l.length - 1 := CM.remove_length l i
    have h5 := Hp.of (cs := cs.setIfInBounds 2 (.slice (some ⟨G, 0, none⟩) (l.length - 1) cap)) h2 (by rw [hlen]; exact h3)
    rw [hlen] at h5
    exact ⟨h1, _, h5, (htf hT).trans h4 (fun q hq => .inl (by unfold foot; simp at hq; simp [hq])), rfl⟩
  have HEND := Lib.hid hend
  have HR := Lib.hid (And.intro hr (And.intro hs hB))
  obtain ⟨n, hn⟩ : ∃ n, n = l.length - 1 := ⟨_, rfl⟩
  have hnl : l.length = n + 1 := by omega
  have hc0 := hs.cell
  have HN := Lib.hid (And.intro hn hnl)
  have h3 : wrap64 (n : Int) = (n : Int) := IntWalk.wrap64_in _ (by omega)
  have HI := Lib.hid (And.intro hi hl)
  rw [hnl] at hc0
  have HC0 := Lib.hid hc0
  by_cases hni : n = i
  · subst hni
    have hE := HEND.out w l rfl hr (Touch.refl _ _) (by unfold CM.remove; rw [if_pos hn.symm])
    have HE := Lib.hid hE
    have hb : ((n : Int) == (n : Int)) = true := by simp
    clear h hi hl hr hs hB hn hend hE hc0 htf hnl hcs
    go_enter Tryz.func49, Tryz.ntmps49
    go_wp2_with fail
    rw [meth_len _ _ _ _ HC0.out]
    go_wp2_with fail
    refine (ilen_any w (some ⟨G, 0, none⟩) (n + 1) cap).mono ?_
    rintro e w2 ⟨rfl, rfl⟩
    go_wp2_with fail
    refine HE.out.mono ?_
    rintro e w3 ⟨⟨v3, rfl⟩, h9⟩
    have H9 := Lib.hid h9
    clear h9
    go_wp2_with fail
    go_ret
    exact ⟨⟨_, rfl⟩, H9.out⟩
  · have hin : i < n := by omega
    have hneb : ((n : Int) == (i : Int)) = false := by simp; omega
    have hneb2 : ((n : Int) != (i : Int)) = true := by simp; omega
    have hsw := fun W (hW : Row W G cap l) => iswap2 W G cap (n + 1) l hnl hW i n (by omega) (by omega) (by omega)
    have HSW := Lib.hid hsw
    have hdn := fun W (hW : Row W G cap (CM.swap l i n)) (hS : Stale W B G cap (n + 1) cs) => down_any W B G cap cs (CM.swap l i n) (by rw [CM.swap_length, hnl]; exact hS) hW i n hin (by rw [CM.swap_length, hnl]; omega) (by omega)
    have HDN := Lib.hid hdn
    obtain ⟨D, hD⟩ : ∃ D, D = (CM.down (n + 1) (CM.swap l i n) i n).1 := ⟨_, rfl⟩
    obtain ⟨K, hK⟩ : ∃ K, K = (CM.down (n + 1) (CM.swap l i n) i n).2 := ⟨_, rfl⟩
    have hDl : D.length = n + 1 := by rw [hD, CM.down_length, CM.swap_length, hnl]
    have hDp : D.Perm l := by
      rw [hD]
      exact (CM.down_perm (n + 1) (CM.swap l i n) i n (by rw [CM.swap_length, hnl]; omega)).1.trans (CM.swap_perm l i n hi (by omega))
    have hup := fun W (hW : Row W G cap D) (hS : Stale W B G cap (n + 1) cs) => up_any W B G cap cs D (by rw [hDl]; exact hS) hW i (by omega)
    have HUP := Lib.hid hup
    have hrm : CM.remove l i = (if i < K then D else CM.up (i + 1) D i).take (l.length - 1) := by
      unfold CM.remove
      rw [← hn, if_neg hni]
      unfold CM.fix
      rw [← hD, ← hK]
    have HRM := Lib.hid hrm
    rw [← hD, ← hK] at HDN
    obtain ⟨b, hb⟩ : ∃ b, b = decide (i < K) := ⟨_, rfl⟩
    rw [← hb] at HDN
    have HB := Lib.hid hb
    have HD := Lib.hid (And.intro hDl hDp)
    have HSP := Lib.hid (CM.swap_perm l i n hi (by omega))
    have hfr : ∀ W : World, Touch (G :: l.map It.g) w W → Stale W B G cap (n + 1) cs := fun W t => by rw [← hnl]; exact hs.touch t hB
    have HFR := Lib.hid hfr
    clear h hi hl hr hs hB hn hend hc0 htf hnl hcs hin hni hsw hdn hD hK hDl hDp hup hrm hb hfr
    go_enter Tryz.func49, Tryz.ntmps49
    go_wp2_with fail
    rw [meth_len _ _ _ _ HC0.out]
    go_wp2_with fail
    refine (ilen_any w (some ⟨G, 0, none⟩) (n + 1) cap).mono ?_
    rintro e w2 ⟨rfl, rfl⟩
    go_wp2_with fail
    rw [meth_swap _ _ _ _ HC0.out]
    go_wp2_with fail
    refine (HSW.out _ HR.out.1).mono ?_
    rintro e w3 ⟨⟨v3, rfl⟩, hr3, T3⟩
    have HR3 := Lib.hid hr3
    have HT3 := Lib.hid T3
    clear hr3 T3
    go_wp2_with fail
    refine (HDN.out _ HR3.out (HFR.out _ HT3.out)).mono ?_
    rintro e w4 ⟨rfl, hr4, T4⟩
    have HR4 := Lib.hid hr4
    have HT4 := Lib.hid (perm_in HSP.out HT3.out T4)
    clear hr4 T4
    cases b with
    | true =>
      have hik : i < K := by have := HB.out; simpa using this.symm
      have hE := HEND.out w4 D (by rw [HD.out.1]; exact HN.out.2.symm) HR4.out HT4.out (by rw [HRM.out, if_pos hik])
      have HE := Lib.hid hE
      clear hE hik
      go_wp2_with fail
      refine HE.out.mono ?_
      rintro e w5 ⟨⟨v5, rfl⟩, h9⟩
      have H9 := Lib.hid h9
      clear h9
      go_wp2_with fail
      go_ret
      exact ⟨⟨_, rfl⟩, H9.out⟩
    | false =>
      have hik : ¬ i < K := by have := HB.out; simpa using this.symm
      have HIK := Lib.hid hik
      clear hik
      go_wp2_with fail
      refine (HUP.out w4 HR4.out (HFR.out _ HT4.out)).mono ?_
      rintro e w5 ⟨⟨v5, rfl⟩, hr5, T5⟩
      have hE := HEND.out w5 (CM.up (i + 1) D i) (by rw [CM.up_length, HD.out.1]; exact HN.out.2.symm) hr5 (perm_in HD.out.2 HT4.out T5) (by rw [HRM.out, if_neg HIK.out])
      have HE := Lib.hid hE
      clear hE hr5 T5
      go_wp2_with fail
      refine HE.out.mono ?_
      rintro e w6 ⟨⟨v6, rfl⟩, h9⟩
      have H9 := Lib.hid h9
      clear h9
      go_wp2_with fail
      go_ret
      exact ⟨⟨_, rfl⟩, H9.out⟩
end Go.Proofs.YtibbfihnhlgkeaaGreat

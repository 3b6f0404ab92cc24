/- law10: WalAgain. -/
import Derived.Test.YtmglkhnojimnlaaWalCuts
import Derived.Test.YtmglkhnojimnlaaWalG
namespace Go.Proofs.Ytmglkhnojimnlaa
open Go.RowKit Go.Maps

theorem OwnW.mono {w0 w : World} {g b n m : Nat} {x : LM.L} (h : OwnW w0 w g b n x) (hm : n ≤ m) : OwnW w0 w g b m x := by
  obtain ⟨S, D, sv, h1, h2, h3⟩ := h
  exact ⟨S, D, sv, h1.mono hm, h2, h3⟩
theorem drop_same (M B : List WM.Bs) : ((M ++ B).map ofBs).take M.length = M.map ofBs ∧ ((M ++ B).map ofBs).drop M.length = B.map ofBs := by
  rw [List.map_append]
  constructor
  · rw [List.take_append_of_le_length (by simp), List.take_of_length_le (by simp)]
  · rw [List.drop_append_of_le_length (by simp), List.drop_of_length_le (by simp), List.nil_append]
theorem map_ofBs_bs (l : List ByteArray) : (l.map bs).map ofBs = l := by
  rw [List.map_map]
  conv => rhs; rw [← List.map_id l]
  exact List.map_congr_left (fun s _ => ofBs_bs s)
set_option maxRecDepth 100000 in
set_option maxHeartbeats 3200000 in
theorem again_w (w : World) (a1 : Option Addr) (c1 : Nat) (s1 : List ByteArray) (a2 : Option Addr) (c2 : Nat) (s2 : List ByteArray) (a3 : Option Addr) (l3 c3 : Nat) (ps : List Int)
    (ht1 : Texts w a1 s1) (hl1 : s1.length ≤ maxLen) (hs1 : ∀ s ∈ s1, s.size ≤ maxLen) (ht2 : Texts w a2 s2) (hl2 : s2.length ≤ maxLen) (hs2 : ∀ s ∈ s2, s.size ≤ maxLen) (hps : Picks w (.slice a3 l3 c3) ps) :
    Calls Try.prog 7 #[.slice a1 s1.length c1, .slice a2 s2.length c2, .slice a3 l3 c3] w fun e w' => e = .returned (.bool true) ∧ Touch [] w w' := by
  have hf1 := fun W (T : Touch [] w W) => few_any W a1 c1 s1 (ht1.touch T) hl1 hs1
  have hf2 := fun W (T : Touch [] w W) => few_any W a2 c2 s2 (ht2.touch T) hl2 hs2
  obtain ⟨fA, zA⟩ := fewL_fits s1
  obtain ⟨fB, zB⟩ := fewL_fits s2
  have nA := fewL_len s1
  have nB := fewL_len s2
  obtain ⟨xA, hxA⟩ : ∃ x, x = fewL s1 := ⟨_, rfl⟩
  obtain ⟨xB, hxB⟩ : ∃ x, x = fewL s2 := ⟨_, rfl⟩
  rw [← hxA] at hf1 fA zA nA
  rw [← hxB] at hf2 fB zB nB
  obtain ⟨A, hA⟩ : ∃ x, x = xA.map bs := ⟨_, rfl⟩
  obtain ⟨B, hB⟩ : ∃ x, x = xB.map bs := ⟨_, rfl⟩
  rw [← hA] at fA zA
  rw [← hB] at fB zB
  obtain ⟨M, d0, d2, d3, d5, d6, y, H⟩ := LM.again A B fA fB (by omega) (by omega) ps
  have lA : A.length = xA.length := by rw [hA, List.length_map]
  have lB : B.length = xB.length := by rw [hB, List.length_map]
  obtain ⟨j, hj, hMj⟩ := H.begins
  have lM : M.length ≤ xA.length := by rw [hMj, List.length_take]; omega
  have hpre : prefixB (M.map ofBs) xA 0 = true := by
    unfold prefixB
    refine decide_eq_true ⟨by rw [List.length_map]; exact lM, by omega, ?_⟩
    rw [List.length_map]
    have e1 : xA.take M.length = (A.take M.length).map ofBs := by rw [hA, List.map_take, map_ofBs_bs]
    rw [e1]
    congr 1
    rw [hMj, List.length_take, List.take_eq_take_iff]
    omega
  have HF1 := Lib.hid hf1
  have HF2 := Lib.hid hf2
  have HH := Lib.hid H
  have HA := Lib.hid hA
  have HB := Lib.hid hB
  have HfA := Lib.hid (And.intro fA zA)
  have HfB := Lib.hid (And.intro fB zB)
  have HPRE := Lib.hid hpre
  have HPS := Lib.hid hps
  have HLM := Lib.hid lM
  have HLA := Lib.hid lA
  have HLB := Lib.hid lB
  have lMI : (M.length : Int) ≤ 8 := by omega
  have lBI : (B.length : Int) ≤ 8 := by omega
  clear hf1 hf2 H hA hB fA zA fB zB hpre hps hxA hxB ht1 hs1 ht2 hs2 hl1 hl2 lA lB lM hj hMj j
  go_enter Try.func7, Try.ntmps7
  go_wp2_with fail
  refine (awake_any _).mono ?_
  rintro e w1 ⟨rfl, T1⟩
  go_wp2_with fail
  refine (onew w w1 T1 100000 (by decide)).mono ?_
  rintro e w2 ⟨rfl, o2, T2⟩
  obtain ⟨b, hb⟩ : ∃ b, b = w1.heap.size := ⟨_, rfl⟩
  rw [← hb] at o2 ⊢
  clear hb T1 T2
  go_wp2_with fail
  refine (oopen_good o2 (by omega) HH.out.new rfl).mono ?_
  rintro e w3 ⟨g3, a3', c3', rfl, o3, _, _, _, _⟩
  have O3 := Lib.hid o3
  rw [show ([] : List WM.Bs).length = 0 from rfl]
  clear o3 o2
  go_wp2_with fail
  refine (HF1.out w3 O3.out.T).mono ?_
  rintro e w4 ⟨v4, rfl, hR4, T4⟩
  obtain ⟨a4, c4, rfl, hc4, hm4, tx4⟩ := hR4.open
  have O4 := Lib.hid (O3.out.touch T4)
  have TX4 := Lib.hid tx4
  clear hR4 T4 tx4 O3
  go_wp2_with fail
  refine (HF2.out w4 O4.out.T).mono ?_
  rintro e w5 ⟨v5, rfl, hR5, T5⟩
  obtain ⟨a5, c5, rfl, hc5, hm5, tx5⟩ := hR5.open
  have O5 := Lib.hid (O4.out.touch T5)
  have TX4' := Lib.hid (TX4.out.touch T5)
  have TX5 := Lib.hid tx5
  clear hR5 T5 tx5 O4 TX4
  go_wp2_with fail
  have hap := oappend O5.out (by omega) a4 c4 xA TX4'.out (by rw [← HA.out]; exact HfA.out.1) (by rw [← HA.out, show (LM.start d0 []).l = [] from rfl, List.nil_append]; have := HfA.out.2; omega) (by rw [← HA.out]; have := HH.out.u0.us; have := HfA.out.2; show DM.used d0.fl + _ ≤ _; omega)
  rw [← HA.out] at hap
  refine hap.mono ?_
  rintro e w6 ⟨rfl, o6, k6⟩
  have O6 := Lib.hid o6
  have TX4 := Lib.hid (TX4'.out.keep k6 (by decide))
  have TX5' := Lib.hid (TX5.out.keep k6 (by decide))
  generalize (LM.append (LM.start d0 []) A).1 = q6
  clear hap o6 k6 TX4' TX5 O5
  go_wp2_with fail
  refine (ocrash O6.out.own (by omega) a3 l3 c3 ps HPS.out).mono ?_
  rintro e w7 ⟨rfl, o7, k7⟩
  have O7 := Lib.hid o7
  have TX4' := Lib.hid (TX4.out.keep k7 (by decide))
  have TX5 := Lib.hid (TX5'.out.keep k7 (by decide))
  clear o7 k7 TX4 TX5' O6
  go_wp2_with fail
  refine (oopen_good O7.out (by omega) HH.out.one rfl).mono ?_
  rintro e w8 ⟨g8, a8, c8, rfl, o8, tx8, hc8, hm8, k8⟩
  have O8 := Lib.hid o8
  have TX4 := Lib.hid (TX4'.out.keep k8 (by decide))
  have TX5' := Lib.hid (TX5.out.keep k8 (by decide))
  have TX8 := Lib.hid tx8
  clear o8 k8 tx8 TX4' TX5 O7
  go_wp2_with fail
  refine (oopen_good O8.out.own (by omega) HH.out.two rfl).mono ?_
  rintro e w9 ⟨g9, a9, c9, rfl, o9, tx9, hc9, hm9, k9⟩
  have O9 := Lib.hid o9
  have TX4' := Lib.hid (TX4.out.keep k9 (by decide))
  have TX5 := Lib.hid (TX5'.out.keep k9 (by decide))
  have TX8' := Lib.hid (TX8.out.keep k9 (by decide))
  have TX9 := Lib.hid tx9
  clear o9 k9 tx9 TX4 TX5' O8 TX8
  go_wp2_with fail
  have hsa := same_any w9 a8 a9 c8 c9 (M.map ofBs) (M.map ofBs) TX8'.out.texts TX9.out.texts (by rw [List.length_map]; omega) (by rw [List.length_map]; omega)
  rw [sameB_refl, List.length_map] at hsa
  refine hsa.mono ?_
  rintro e w10 ⟨rfl, j10, hw10⟩
  have T10 : Touch [] w9 w10 := hw10 ▸ Touch.drewN [] w9 j10
  have TX4 := Lib.hid (TX4'.out.touch T10)
  have TX5' := Lib.hid (TX5.out.touch T10)
  have TX8 := Lib.hid (TX8'.out.touch T10)
  have O10 := Lib.hid (O9.out.touch T10)
  clear hsa hw10 T10 TX4' TX5 TX8' TX9 O9
  go_wp2_with fail
  have hpf := prefix_any w10 a8 a4 c8 c4 (M.map ofBs) xA 0 TX8.out.texts TX4.out.texts (by rw [List.length_map]; omega) (by omega) hc4 hm4
  rw [HPRE.out, List.length_map] at hpf
  refine hpf.mono ?_
  rintro e w11 ⟨rfl, j11, hw11⟩
  have T11 : Touch [] w10 w11 := hw11 ▸ Touch.drewN [] w10 j11
  have TX5 := Lib.hid (TX5'.out.touch T11)
  have TX8' := Lib.hid (TX8.out.touch T11)
  have O11 := Lib.hid (O10.out.touch T11)
  clear hpf hw11 T11 TX4 TX5' TX8 O10
  go_wp2_with fail
  refine (ofirm O11.out).mono ?_
  rintro e w11 ⟨rfl, rfl⟩
  rw [show (LM.start d3 M).firm = M.length from rfl]
  have hself : ((M.length : Int) == (M.length : Int)) = true := by simp
  go_wp2_with fail
  have hap := oappend O11.out (by omega) a5 c5 xB TX5.out (by rw [← HB.out]; exact HfB.out.1) (by
      rw [← HB.out, show (LM.start d3 M).l = M from rfl, WM.all_append, List.length_append]
      have := O11.out.small
      rw [show (LM.start d3 M).l = M from rfl] at this
      have h2 : (WM.all M).length ≤ 1664 := by
        obtain ⟨j, h1, h2⟩ := HH.out.begins
        have h3 := WM.all_take_mono A h1
        rw [List.take_length] at h3
        rw [h2]
        have := HfA.out.2
        omega
      have := HfB.out.2
      omega) (by rw [← HB.out]; have := HH.out.u3.us; have := HfA.out.2; have := HfB.out.2; show DM.used d3.fl + _ ≤ _; omega)
  rw [← HB.out, HH.out.app] at hap
  refine hap.mono ?_
  rintro e w12 ⟨rfl, o12, k12⟩
  have O12 := Lib.hid o12
  have TX5' := Lib.hid (TX5.out.keep k12 (by decide))
  have TX8 := Lib.hid (TX8'.out.keep k12 (by decide))
  clear hap o12 k12 TX5 TX8' O11
  go_wp2_with fail
  have hsy := osync O12.out (by omega)
  obtain ⟨z, hz⟩ : ∃ z, z = LM.sync y := ⟨_, rfl⟩
  have hz0 : z.1 = 0 := by rw [hz]; exact HH.out.syn
  rw [← hz] at hsy
  obtain ⟨zv, hzv⟩ : ∃ zv, zv = z.2 := ⟨_, rfl⟩
  have hze : z = (0, zv) := by rw [hzv, ← hz0]
  rw [hze] at hsy
  have HZ := Lib.hid (show zv = (LM.sync y).2 by rw [hzv, hz])
  refine hsy.mono ?_
  rintro e w13 ⟨rfl, o13, k13⟩
  have O13 := Lib.hid o13
  have TX5 := Lib.hid (TX5'.out.keep k13 (by decide))
  have TX8' := Lib.hid (TX8.out.keep k13 (by decide))
  clear hsy o13 k13 hze hzv hz0 hz TX5' TX8 O12
  go_wp2_with fail
  refine (ocrash O13.out.own (by omega) a3 l3 c3 ps HPS.out).mono ?_
  rintro e w14 ⟨rfl, o14, k14⟩
  have O14 := Lib.hid o14
  have TX5' := Lib.hid (TX5.out.keep k14 (by decide))
  have TX8 := Lib.hid (TX8'.out.keep k14 (by decide))
  clear o14 k14 TX5 TX8' O13
  go_wp2_with fail
  have hlast : LM.opened (DM.crash zv.d ps) = ((0, d6), M ++ B) := by rw [HZ.out]; exact HH.out.last
  refine (oopen_good O14.out (by omega) hlast rfl).mono ?_
  rintro e w15 ⟨g15, a15, c15, rfl, o15, tx15, hc15, hm15, k15⟩
  have T15 := Lib.hid o15.T
  have TX5 := Lib.hid (TX5'.out.keep k15 (by decide))
  have TX8' := Lib.hid (TX8.out.keep k15 (by decide))
  have hln : (M ++ B).length = M.length + B.length := List.length_append
  have hlx : xB.length = B.length := HLB.out.symm
  simp only [hln, hlx] at hc15 ⊢
  have TX15 := Lib.hid tx15
  unfold maxLen at hm15
  have hcI : (M.length : Int) + (B.length : Int) ≤ (c15 : Int) := by omega
  have hcI2 : (c15 : Int) ≤ 9223372036854775807 := by omega
  have hself2 : ((M.length : Int) + (B.length : Int) == (M.length : Int) + (B.length : Int)) = true := by simp
  have hself3 : (M.length + B.length == M.length + B.length) = true := by simp
  clear o15 k15 tx15 TX5' TX8 O14 hln hlx hlast
  have hys1 : Texts w15 a15 ((M.map ofBs)) := by
    have := TX15.out.texts.take M.length
    rwa [(drop_same M B).1] at this
  have hsa1 := fun c => same_any w15 a15 a8 c c8 (M.map ofBs) (M.map ofBs) hys1 TX8'.out.texts (by rw [List.length_map]; omega) (by rw [List.length_map]; omega)
  rw [sameB_refl, List.length_map] at hsa1
  have HS1 := Lib.hid hsa1
  clear hsa1 hys1
  go_wp2_with fail
  refine (HS1.out _).mono ?_
  rintro e w16 ⟨rfl, j16, hw16⟩
  have T16 : Touch [] w15 w16 := hw16 ▸ Touch.drewN [] w15 j16
  have HT16 := Lib.hid T16
  clear hw16 T16
  have hxB : xB = B.map ofBs := by rw [HB.out, map_ofBs_bs]
  have hys2 : Texts w16 (Option.map (fun x => x.add M.length) a15) (B.map ofBs) := fun i hi => by
    have hdr := (drop_same M B).2
    have hi2 : M.length + i < ((M ++ B).map ofBs).length := by rw [List.length_map] at hi; rw [List.length_map, List.length_append]; omega
    obtain ⟨blk, off, e, hc⟩ := (TX15.out.touch HT16.out).texts (M.length + i) hi2
    refine ⟨blk, off + M.length, by rw [e]; simp only [Option.map_some, add_none], ?_⟩
    rw [Nat.add_assoc, hc]
    congr 2
    have : ((M ++ B).map ofBs)[M.length + i] = (((M ++ B).map ofBs).drop M.length)[i]'(by rw [hdr]; exact hi) := by rw [List.getElem_drop]
    rw [this]
    simp only [hdr]
  have hty := (TX5.out.touch HT16.out).texts
  rw [hxB] at hty
  have hsa2 := fun a c (hx : Texts w16 a (B.map ofBs)) => same_any w16 a a5 c c5 (B.map ofBs) (B.map ofBs) hx hty (by rw [List.length_map]; omega) (by rw [List.length_map]; omega)
  simp only [sameB_refl, List.length_map] at hsa2
  have HS2 := Lib.hid hsa2
  have HY2 := Lib.hid hys2
  have hy3 : ∀ a, B.length = 0 → Texts w16 a (B.map ofBs) := fun a h => by
    have : B = [] := List.length_eq_zero_iff.1 h
    subst this
    exact Texts.nil _ _
  have HY3 := Lib.hid hy3
  clear hxB hys2 hty hsa2 hy3
  go_wp2_with fail
  all_goals
    first
      | (with_reducible refine (HS2.out _ _ HY2.out).mono ?_)
      | (with_reducible refine (HS2.out _ _ (HY3.out _ (by omega))).mono ?_)
      | trace_state
    rintro e w17 ⟨rfl, j17, hw17⟩
    have T17 : Touch [] w16 w17 := hw17 ▸ Touch.drewN [] w16 j17
    have HT17 := Lib.hid ((T15.out.trans HT16.out (by simp)).trans T17 (by simp))
    clear hw17 T17
    go_wp2_with fail
    go_ret
    exact ⟨rfl, HT17.out⟩
theorem again_walk (a1 : Option Addr) (l1 c1 : Nat) (a2 : Option Addr) (l2 c2 : Nat) (a3 : Option Addr) (l3 c3 : Nat) (w : World) (h1 : Rd w 27 [.slice a1 l1 c1]) (h2 : Rd w 27 [.slice a2 l2 c2]) (h3 : Rd w 34 [.slice a3 l3 c3]) :
    Calls Try.prog 7 #[.slice a1 l1 c1, .slice a2 l2 c2, .slice a3 l3 c3] w fun e w' => e = .returned (.bool true) ∧ Touch [] w w' := by
  obtain ⟨s1, rfl, q1, q2, t1, z1⟩ := texts_in h1
  obtain ⟨s2, rfl, p1, p2, t2, z2⟩ := texts_in h2
  obtain ⟨ps, hps⟩ := h3.picks
  exact again_w w a1 c1 s1 a2 c2 s2 a3 l3 c3 ps t1 (by omega) z1 t2 (by omega) z2 hps
end Go.Proofs.Ytmglkhnojimnlaa

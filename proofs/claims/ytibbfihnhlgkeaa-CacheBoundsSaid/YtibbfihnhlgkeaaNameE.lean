/- Package name: the iterator over a row's labels (each). -/
import Derived.Test.YtibbfihnhlgkeaaRange
namespace Go.Proofs.Ytibbfihnhlgkeaa
open Go.RowKit Go.Maps Go.Shelf
open NM (Bs bs ofBs)
attribute [local go_sem] Oper.semAt_some

/-- where a row ends; below 0: it is none -/
def endI (s : ByteArray) : Int := match (NM.scan (bs s)).2 with
  | none => -1
  | some r => (s.size : Int) - (r.length : Int)
def offs (pre : List ByteArray) : Nat := (pre.map (fun x => x.size + 1)).sum
theorem offs_snoc (pre : List ByteArray) (x : ByteArray) : offs (pre ++ [x]) = offs pre + (x.size + 1) := by simp [offs]

theorem neach_any (w : World) (b : ByteArray) (p : Option Addr) : Calls Try.prog 70 #[.string b, .pointer p] w fun e w' => e = .returned (.func (.func 81) #[] #[.pointer (some ⟨w.heap.size + 1, 0, none⟩), .pointer (some ⟨w.heap.size, 0, none⟩)]) ∧
    w' = (w.alloc (.cells #[.string b] 9)).alloc (.cells #[.pointer p] 111) := by
  go_enter Try.func70, Try.ntmps70
  go_wp2
  go_ret
  exact ⟨rfl, rfl⟩
/-- the three cells of the iterator are as they were -/
def SameT (l : List Nat) (W W' : World) : Prop := ∀ g ∈ l, W'.heap[g]? = W.heap[g]?
theorem SameT.blk {l : List Nat} {W W' : World} (h : SameT l W W') {g : Nat} {t : TypeId} {cs : Array Value} (hg : g ∈ l) (hb : Blk W g t cs) : Blk W' g t cs := (h g hg).trans hb
theorem pre_short {pre : List ByteArray} {x : ByteArray} {l : List Bs} {N : Nat} {r : List Bs × Option Bs} {q : Option Bs} (h : r = ((pre ++ [x]).map bs ++ l, q)) (hN : r.1.length ≤ N) : pre.length < N := by
  rw [h] at hN
  simp only [List.length_append, List.length_map, List.length_cons, List.length_nil] at hN
  omega
theorem map_of_bs (l : List ByteArray) : (l.map bs).map ofBs = l := by
  rw [List.map_map]
  conv => rhs; rw [← List.map_id l]
  exact List.map_congr_left (fun x _ => NM.ofBs_bs x)
set_option maxRecDepth 10000 in
set_option maxHeartbeats 4000000 in
theorem neach1_any (l Bb Bp Ba N : Nat) (J : List ByteArray → World → Prop) (hJ : ∀ pre W W', J pre W → Touch [Ba] W W' → J pre W')
    (hY : ∀ m pre x W, J pre W → pre.length < N → YieldAt Fence.wide m Try.prog l #[.int .i64 (offs pre : Int), .string x] W fun e W' => e = .returned (.bool true) ∧ J (pre ++ [x]) W' ∧ SameT [Bb, Bp, Ba] W W')
    (w : World) (b : ByteArray) (hbz : b.size ≤ 1099511627776) (x0 : Int) (hb : Blk w Bb 9 #[.string b]) (hp : Blk w Bp 111 #[.pointer (some ⟨Ba, 0, none⟩)]) (ha : Blk w Ba 3 #[.int .i64 x0]) (h0 : J [] w) (hN : (NM.scan (bs b)).1.length ≤ N) :
    Calls Try.prog 81 #[.func (.yield l) #[] #[], .pointer (some ⟨Bp, 0, none⟩), .pointer (some ⟨Bb, 0, none⟩)] w fun e w' => (∃ v, e = .returned v) ∧
      J ((NM.scan (bs b)).1.map ofBs) w' ∧ Blk w' Ba 3 #[.int .i64 (endI b)] := by
  have hbp := hb.ne_type hp (by decide)
  have hba := hb.ne_type ha (by decide)
  have hpa := hp.ne_type ha (by decide)
  have HJ := Lib.hid hJ
  have HY := Lib.hid hY
  have HN := Lib.hid hN
  have k1 : w.cell? ⟨Bp, 0, none⟩ = some (.pointer (some ⟨Ba, 0, none⟩)) := hp.cell 0
  have k2 : w.cell? ⟨Ba, 0, none⟩ = some (.int .i64 x0) := ha.cell 0
  have k3 : w.frozen? ⟨Ba, 0, none⟩ = false := ha.frozen 0
  have hb1 : Blk (w.setCell ⟨Ba, 0, none⟩ (.int .i64 (-1))) Bb 9 #[.string b] := hb.far (p := ⟨Ba, 0, none⟩) hba _
  have hp1 : Blk (w.setCell ⟨Ba, 0, none⟩ (.int .i64 (-1))) Bp 111 #[.pointer (some ⟨Ba, 0, none⟩)] := hp.far (p := ⟨Ba, 0, none⟩) hpa _
  have ha1 : Blk (w.setCell ⟨Ba, 0, none⟩ (.int .i64 (-1))) Ba 3 #[.int .i64 (-1)] := ha.set_ 0 _
  have hj1 : J [] (w.setCell ⟨Ba, 0, none⟩ (.int .i64 (-1))) := hJ [] w _ h0 ((Touch.refl _ w).setCell _ _ (.inl (by simp)))
  clear hJ hY hN
  go_enter Try.func81, Try.ntmps81
  go_wp2_with fail
  obtain ⟨wa, hwa⟩ : ∃ wa, wa = w.setCell ⟨Ba, 0, none⟩ (.int .i64 (-1)) := ⟨_, rfl⟩
  rw [← hwa] at hb1 hp1 ha1 hj1 ⊢
  clear hwa hb hp ha h0 k1 k2 k3
  go_loopw [4] (fun v wr => ∃ (pre : List ByteArray), v = .int .i64 (offs pre : Int) ∧ Blk wr Bb 9 #[.string b] ∧ Blk wr Bp 111 #[.pointer (some ⟨Ba, 0, none⟩)] ∧ Blk wr Ba 3 #[.int .i64 (-1)] ∧ J pre wr ∧ offs pre ≤ b.size ∧
    NM.scan (bs b) = (pre.map bs ++ (NM.scan ((bs b).drop (offs pre))).1, (NM.scan ((bs b).drop (offs pre))).2)) (fun v _ => b.size - (intOf v).toNat)
  case atStart => exact ⟨[], rfl, hb1, hp1, ha1, hj1, by simp [offs], by simp [offs]⟩
  case round =>
    obtain ⟨pre, rfl, hb', hp', ha', hj, hsz, hre⟩ := hrel
    obtain ⟨wo, rfl⟩ : ∃ wo, wo = wr := ⟨_, rfl⟩
    obtain ⟨i, hi⟩ : ∃ i, i = offs pre := ⟨_, rfl⟩
    have hcb : wo.cell? ⟨Bb, 0, none⟩ = some (.string b) := hb'.cell 0
    have k1 : wo.cell? ⟨Bp, 0, none⟩ = some (.pointer (some ⟨Ba, 0, none⟩)) := hp'.cell 0
    have k2 : wo.cell? ⟨Ba, 0, none⟩ = some (.int .i64 (-1)) := ha'.cell 0
    have k3 : wo.frozen? ⟨Ba, 0, none⟩ = false := ha'.frozen 0
    have hbad : (NM.scan ((bs b).drop i)) = ([], none) → J ((NM.scan (bs b)).1.map ofBs) wo ∧ Blk wo Ba 3 #[.int .i64 (endI b)] := fun h => by
      rw [← hi, h] at hre
      unfold endI
      rw [hre]
      refine ⟨?_, ha'⟩
      simp only [List.append_nil]
      rw [map_of_bs]
      exact hj
    have hgood : ∀ r, (NM.scan ((bs b).drop i)) = ([], some r) → (i : Int) = (b.size : Int) - (r.length : Int) → J ((NM.scan (bs b)).1.map ofBs) (wo.setCell ⟨Ba, 0, none⟩ (.int .i64 (i : Int))) ∧ Blk (wo.setCell ⟨Ba, 0, none⟩ (.int .i64 (i : Int))) Ba 3 #[.int .i64 (endI b)] := fun r h h2 => by
      rw [← hi, h] at hre
      unfold endI
      rw [hre]
      refine ⟨?_, ?_⟩
      · simp only [List.append_nil]
        rw [map_of_bs]
        exact HJ.out _ _ _ hj ((Touch.refl _ wo).setCell _ _ (.inl (by simp)))
      · simp only
        rw [← h2]
        exact ha'.set_ 0 _
    rw [← hi]
    have HBAD := Lib.hid hbad
    have HGOOD := Lib.hid hgood
    have HRE := Lib.hid hre
    have HI := Lib.hid hi
    rw [← hi] at hsz
    clear hbad hgood hre hi
    by_cases hlt : i < b.size
    · have hltI : (i : Int) < (b.size : Int) := by omega
      have hdr := NM.bs_drop b i hlt
      obtain ⟨c, hc⟩ : ∃ c, b[i] = c := ⟨_, rfl⟩
      rw [hc] at hdr
      have hw2 : wrap64 ((i : Int) + 1) = (i : Int) + 1 := IntWalk.wrap64_in _ (by omega)
      by_cases h0 : c = 0
      · subst h0
        have hz : b[i].toNat = 0 := by rw [hc]; rfl
        have hend := HGOOD.out _ (by rw [hdr, NM.scan_zero]) (by rw [← hdr, List.length_drop, NM.bs_length]; omega)
        have HEND := Lib.hid hend
        clear hend
        go_wp2_with fail
        go_end0
        exact ⟨⟨_, rfl⟩, HEND.out⟩
      · have hcn : c.toNat ≠ 0 := fun e => h0 (UInt8.toNat_inj.1 e)
        have hcnI : (c.toNat : Int) ≠ 0 := by omega
        have hc255 := c.toNat_lt
        have hwc : wrap64 (c.toNat : Int) = (c.toNat : Int) := IntWalk.wrap64_in _ (by omega)
        have hw3 : wrap64 ((i : Int) + 1 + (c.toNat : Int)) = (i : Int) + 1 + (c.toNat : Int) := IntWalk.wrap64_in _ (by omega)
        have hlen : ((bs b).drop (i + 1)).length = b.size - (i + 1) := by rw [List.length_drop, NM.bs_length]
        by_cases h63 : 63 < c.toNat
        · have h63I : (63 : Int) < (c.toNat : Int) := by omega
          have HEND := Lib.hid (HBAD.out (by rw [hdr, NM.scan_bad h0 (.inl h63)]))
          go_wp2_with fail
          refine bodyPost_ret (results_none rfl _ _ _) rfl ?_
          exact ⟨⟨_, rfl⟩, HEND.out⟩
        · have h63I : (c.toNat : Int) ≤ 63 := by omega
          by_cases hl : b.size < i + 1 + c.toNat
          · have hlI : (b.size : Int) < (i : Int) + 1 + (c.toNat : Int) := by omega
            have HEND := Lib.hid (HBAD.out (by rw [hdr, NM.scan_bad h0 (.inr (by omega))]))
            go_wp2_with fail
            refine bodyPost_ret (results_none rfl _ _ _) rfl ?_
            exact ⟨⟨_, rfl⟩, HEND.out⟩
          · have hlI : (i : Int) + 1 + (c.toNat : Int) ≤ (b.size : Int) := by omega
            obtain ⟨x, hx⟩ : ∃ x, x = b.extract (i + 1) (i + 1 + c.toNat) := ⟨_, rfl⟩
            have hxs : x.size = c.toNat := by rw [hx, ByteArray.size_extract]; omega
            have hxb : bs x = ((bs b).drop (i + 1)).take c.toNat := by rw [hx, NM.bs_extract]; congr 1; omega
            have hre2 : NM.scan (bs b) = ((pre ++ [x]).map bs ++ (NM.scan ((bs b).drop (offs (pre ++ [x])))).1, (NM.scan ((bs b).drop (offs (pre ++ [x])))).2) := by
              have h9 := HRE.out
              rw [← HI.out, hdr, NM.scan_good h0 (by omega) (by rw [hlen]; omega)] at h9
              rw [h9, offs_snoc, ← HI.out, hxs, List.drop_drop, List.map_append]
              have e5 : i + 1 + c.toNat = i + (c.toNat + 1) := by omega
              simp only [List.map_cons, List.map_nil, List.append_assoc, List.cons_append, List.nil_append, e5, hxb]
            have HPL := Lib.hid (pre_short hre2 HN.out)
            have HRE2 := Lib.hid hre2
            have HXS := Lib.hid hxs
            have HX := Lib.hid hx
            clear hre2 hxb hxs hlen hdr HBAD HGOOD
            go_upto_region 4 with (fail)
            go_cut [46] from 8 to 50 (fun v wx => v = .bool false ∧ J (pre ++ [x]) wx ∧ Blk wx Bb 9 #[.string b] ∧ Blk wx Bp 111 #[.pointer (some ⟨Ba, 0, none⟩)] ∧ Blk wx Ba 3 #[.int .i64 (-1)])
            case first =>
              refine (wpIn_wide (n := 5)).1 ?_
              obtain ⟨fn, tmps, assign, body, hyy, hR⟩ := HY.out 4 pre x wo hj HPL.out
              rw [← HI.out, HX.out] at hyy
              gi_wp2
              refine hR.mono ?_
              rintro e w4 ⟨rfl, hj4, hs4⟩
              gi_wp2
              go_meet
              exact ⟨by rw [decide_eq_false (show ¬ (63 : Int) < (c.toNat : Int) by omega), decide_eq_false (show ¬ (b.size : Int) < (i : Int) + 1 + (c.toNat : Int) by omega)]; rfl, hj4, hs4.blk (by simp) hb', hs4.blk (by simp) hp', hs4.blk (by simp) ha'⟩
            case rest =>
            obtain ⟨rfl, hj2, hb2, hp2, ha2⟩ := hcut
            obtain ⟨w5, hw5⟩ : ∃ x, x = wc := ⟨_, rfl⟩
            rw [← hw5] at hj2 hb2 hp2 ha2 ⊢
            clear hw5 wc
            have hw4 : wrap64 (1 + (c.toNat : Int)) = 1 + (c.toNat : Int) := IntWalk.wrap64_in _ (by omega)
            have hw5 : wrap64 ((i : Int) + (1 + (c.toNat : Int))) = (i : Int) + (1 + (c.toNat : Int)) := IntWalk.wrap64_in _ (by omega)
            go_wp2_with fail
            go_roundw
            case rel =>
              refine ⟨pre ++ [x], ?_, hb2, hp2, ha2, hj2, ?_, HRE2.out⟩
              · rw [offs_snoc, ← HI.out, HXS.out]
                congr 1
                omega
              · rw [offs_snoc, ← HI.out, HXS.out]; omega
            case measure => simp [intOf]; omega
    · have hge : (b.size : Int) ≤ (i : Int) := by omega
      have HEND := Lib.hid (HGOOD.out [] (by rw [List.drop_of_length_le (by rw [NM.bs_length]; omega), NM.scan_nil]) (by simp; omega))
      go_wp2_with fail
      go_end0
      exact ⟨⟨_, rfl⟩, HEND.out⟩
end Go.Proofs.Ytibbfihnhlgkeaa

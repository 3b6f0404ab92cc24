/- The document's names (fingerpostref03): row, Check, Labels, Depth. -/
import Derived.Test.YtibbfihnhlgkeaaGreatNameL
namespace Go.Proofs.YtibbfihnhlgkeaaGreat
open Go.RowKit Go.Maps Go.Shelf
open NM (Bs bs ofBs)

def rowB (l : Bs) : Bool := decide ((NM.scan l).2 = some [0])
/-- what row tells, where it is one -/
def RowEnd (w w' : World) (v : Value) (l : Bs) : Prop := (rowB l = true → TRow w' w.heap.size v ((NM.labels l).map ofBs)) ∧ Touch [] w w'
theorem RowEnd.bad {w w' : World} {l : Bs} (v : Value) (h : rowB l = false) (t : Touch [] w w') : RowEnd w w' v l := ⟨fun e => by rw [h] at e; exact absurd e (by decide), t⟩
theorem check_row (l : Bs) : NM.check l = if rowB l = true then (if 255 < l.length then 11 else 0) else 10 := by
  unfold NM.check rowB
  by_cases h : (NM.scan l).2 = some [0]
  · rw [if_pos h, if_pos (decide_eq_true h)]
  · rw [if_neg h, if_neg (by rw [decide_eq_false h]; decide)]
set_option maxRecDepth 10000 in
set_option maxHeartbeats 2000000 in
theorem rrow_any (w : World) (b : ByteArray) (hbz : b.size ≤ 1099511627776) : Calls Tryz.prog 79 #[.string b] w fun e w' =>
    ∃ v, e = .returned (.tuple #[v, .bool (rowB (bs b))]) ∧ RowEnd w w' v (bs b) := by
  obtain ⟨i0, hi, hz0, hz1, hz2⟩ := info_parts infoTxt
  have HI := Lib.hid (And.intro hi (And.intro hz0 (And.intro hz1 hz2)))
  have hcount := labels_count b
  have HCO := Lib.hid hcount
  clear hi hz0 hz1 hz2 hcount
  go_enter Tryz.func79, Tryz.ntmps79
  go_wp2_with fail
  go_loopw [4, 5] (fun s4 u wr => ∃ (pre : List ByteArray) (v : Value), v = s4 ∧ u = .int .i64 (offs pre : Int) ∧ TRow wr w.heap.size v pre ∧ Touch [] w wr ∧ offs pre ≤ b.size ∧
    NM.scan (bs b) = (pre.map bs ++ (NM.scan ((bs b).drop (offs pre))).1, (NM.scan ((bs b).drop (offs pre))).2)) (fun _ u _ => b.size - (intOf u).toNat)
  case atStart => exact ⟨[], _, rfl, rfl, TRow.nil _ _, Touch.refl _ _, by simp [offs], by simp [offs]⟩
  case round =>
    obtain ⟨pre, v, rfl, rfl, hR, hT, hsz, hre⟩ := hrel
    obtain ⟨wo, rfl⟩ : ∃ wo, wo = wr := ⟨_, rfl⟩
    obtain ⟨i, hi⟩ : ∃ i, i = offs pre := ⟨_, rfl⟩
    rw [← hi]
    rw [← hi] at hsz
    have HR := Lib.hid hR
    have HT := Lib.hid hT
    have HRE := Lib.hid hre
    have HI2 := Lib.hid hi
    clear hR hT hre hi
    have hendn : ∀ r, NM.scan ((bs b).drop i) = ([], r) → (rowB (bs b) = decide (r = some [0])) ∧ (rowB (bs b) = true → (NM.labels (bs b)).map ofBs = pre) := fun r h => by
      have h9 := HRE.out
      rw [← HI2.out, h] at h9
      refine ⟨by unfold rowB; rw [h9], fun _ => ?_⟩
      unfold NM.labels
      rw [h9]
      simp only [List.append_nil]
      exact map_of_bs pre
    by_cases hlt : i < b.size
    · have hltI : (i : Int) < (b.size : Int) := by omega
      have hdr := NM.bs_drop b i hlt
      obtain ⟨c, hc⟩ : ∃ c, b[i] = c := ⟨_, rfl⟩
      rw [hc] at hdr
      have hw2 : wrap64 ((i : Int) + 1) = (i : Int) + 1 := IntWalk.wrap64_in _ (by omega)
      have hw1 : wrap64 ((b.size : Int) - 1) = (b.size : Int) - 1 := IntWalk.wrap64_in _ (by omega)
      by_cases h0 : c = 0
      · subst h0
        have hz : b[i].toNat = 0 := by rw [hc]; rfl
        obtain ⟨e1, e2⟩ := hendn _ (by rw [hdr, NM.scan_zero])
        have hrb : rowB (bs b) = decide ((i : Int) = (b.size : Int) - 1) := by
          rw [e1, decide_eq_decide, ← hdr]
          constructor
          · intro h
            have := congrArg List.length (Option.some.inj h)
            rw [List.length_drop, NM.bs_length] at this
            simp at this
            omega
          · intro h
            rw [hdr]
            have h9 : ((bs b).drop (i + 1)).length = 0 := by rw [List.length_drop, NM.bs_length]; omega
            rw [List.length_eq_zero_iff.1 h9]
        have HEND := Lib.hid (And.intro hrb e2)
        clear e1 e2 hrb hendn hdr
        go_wp2_with fail
        go_ret2
        refine ⟨v, ?_, fun h => by rw [HEND.out.2 h]; exact HR.out, HT.out⟩
        rw [HEND.out.1]
        congr 3
      · have hcn : c.toNat ≠ 0 := fun e => h0 (UInt8.toNat_inj.1 e)
        have hcnI : (c.toNat : Int) ≠ 0 := by omega
        have hc255 := c.toNat_lt
        have hwc : wrap64 (c.toNat : Int) = (c.toNat : Int) := IntWalk.wrap64_in _ (by omega)
        have hw3 : wrap64 ((i : Int) + 1 + (c.toNat : Int)) = (i : Int) + 1 + (c.toNat : Int) := IntWalk.wrap64_in _ (by omega)
        have hlen : ((bs b).drop (i + 1)).length = b.size - (i + 1) := by rw [List.length_drop, NM.bs_length]
        by_cases hbad : 63 < c.toNat ∨ b.size < i + 1 + c.toNat
        · obtain ⟨e1, e2⟩ := hendn none (by rw [hdr, NM.scan_bad h0 (by omega)])
          have HEND := Lib.hid (show rowB (bs b) = false by rw [e1]; simp)
          clear e1 e2 hendn hdr
          by_cases h63 : 63 < c.toNat
          · have h63I : (63 : Int) < (c.toNat : Int) := by omega
            clear hbad
            go_wp2_with fail
            go_ret2
            exact ⟨_, by rw [HEND.out]; rfl, RowEnd.bad _ HEND.out HT.out⟩
          · have h63I : (c.toNat : Int) ≤ 63 := by omega
            have hlI : (b.size : Int) < (i : Int) + 1 + (c.toNat : Int) := by omega
            clear hbad
            go_wp2_with fail
            go_ret2
            exact ⟨_, by rw [HEND.out]; rfl, RowEnd.bad _ HEND.out HT.out⟩
        · have h63I : (c.toNat : Int) ≤ 63 := by omega
          have hlI : (i : Int) + 1 + (c.toNat : Int) ≤ (b.size : Int) := by omega
          obtain ⟨x, hx⟩ : ∃ x, x = b.extract (i + 1) (i + 1 + c.toNat) := ⟨_, rfl⟩
          have hxs : x.size = c.toNat := by rw [hx, ByteArray.size_extract]; omega
          have hxb : bs x = ((bs b).drop (i + 1)).take c.toNat := by rw [hx, NM.bs_extract]; congr 1; omega
          have hre2 : NM.scan (bs b) = ((pre ++ [x]).map bs ++ (NM.scan ((bs b).drop (offs (pre ++ [x])))).1, (NM.scan ((bs b).drop (offs (pre ++ [x])))).2) := by
            have h9 := HRE.out
            rw [← HI2.out, hdr, NM.scan_good h0 (by omega) (by rw [hlen]; omega)] at h9
            rw [h9, offs_snoc, ← HI2.out, hxs, List.drop_drop, List.map_append]
            have e5 : i + 1 + c.toNat = i + (c.toNat + 1) := by omega
            simp only [List.map_cons, List.map_nil, List.append_assoc, List.cons_append, List.nil_append, e5, hxb]
          have HPL := Lib.hid (pre_short hre2 HCO.out)
          have HRE2 := Lib.hid hre2
          have HXS := Lib.hid hxs
          have HX := Lib.hid hx
          clear hre2 hxb hxs hlen hdr hbad hendn
          have hrow : wo.ownsRow w.heap.size 9 1 v pre.length (pre.map .string) := HR.out
          have HROW := Lib.hid hrow
          clear hrow
          go_wp2_with (at_builtin; refine wpList_append_own _ rfl (.tmp 32) (.tmp 41) 106 rfl w.heap.size 9 i0 _ 1 16 Tryz.underlying106 HI.out.1 HI.out.2.1 HI.out.2.2.1 HI.out.2.2.2 rfl (by decide) v pre.length _ rfl (HROW.out.alloc _) ⟨wo.heap.size, 0, none⟩ 1 1 [.string (b.extract (i + 1) (i + 1 + c.toNat))] rfl rfl (cell_one_new _ _ _) (by simp [Value.oneCell']) (by unfold maxLen; have := HPL.out; have := HCO.out; omega) (by have := HPL.out; have := HCO.out; omega) (by have := HT.out.size; simp; omega) ?_; intro v' w2 hown' hgrow _; obtain ⟨g', cap', rfl⟩ := ownsRow_succ hown')
          have T2 : Touch [] w w2 := (HT.out.alloc _).trans (Touch.of_grown hgrow) (fun k hk => .inr (HROW.out.lt k (by simpa using hk)).1)
          have hR2 : TRow w2 w.heap.size (.slice (some ⟨g', 0, none⟩) (pre.length + 1) cap') (pre ++ [x]) := by
            unfold TRow
            rw [List.map_append, List.length_append, HX.out]
            exact hown'
          have HR2 := Lib.hid hR2
          have HT2 := Lib.hid T2
          clear hR2 T2 hown' hgrow
          go_roundw
          case rel =>
            refine ⟨pre ++ [x], _, rfl, ?_, HR2.out, HT2.out, ?_, HRE2.out⟩
            · rw [offs_snoc, ← HI2.out, HXS.out]
              congr 1
              omega
            · rw [offs_snoc, ← HI2.out, HXS.out]; omega
          case measure => simp [intOf]; omega
    · have hge : (b.size : Int) ≤ (i : Int) := by omega
      have hw1 : wrap64 ((b.size : Int) - 1) = (b.size : Int) - 1 := IntWalk.wrap64_in _ (by omega)
      obtain ⟨e1, e2⟩ := hendn (some []) (by rw [List.drop_of_length_le (by rw [NM.bs_length]; omega), NM.scan_nil])
      have HEND := Lib.hid (show rowB (bs b) = false by rw [e1]; simp)
      clear e1 e2 hendn
      have hne : ¬ (i : Int) = (b.size : Int) - 1 := by omega
      go_wp2_with fail
      go_ret2
      refine ⟨v, ?_, RowEnd.bad v HEND.out HT.out⟩
      rw [HEND.out]
      congr 3
      simp
      omega
set_option maxRecDepth 10000 in
theorem rcheck_any (w : World) (b : ByteArray) (hbz : b.size ≤ 1099511627776) : Calls Tryz.prog 67 #[.string b] w fun e w' => e = .returned (.int .i64 (NM.check (bs b))) ∧ Touch [] w w' := by
  have hck := check_row (bs b)
  rw [NM.bs_length] at hck
  have hr := fun W => rrow_any W b hbz
  obtain ⟨ok, hok⟩ : ∃ ok, ok = rowB (bs b) := ⟨_, rfl⟩
  rw [← hok] at hck hr
  have HR := Lib.hid hr
  clear hr hok
  go_enter Tryz.func67, Tryz.ntmps67
  go_wp2_with fail
  refine (HR.out _).mono ?_
  rintro e w' ⟨v, rfl, _, T⟩
  cases ok with
  | false =>
    rw [if_neg (by simp)] at hck
    have HCK := Lib.hid hck
    clear hck
    go_wp2_with fail
    go_ret
    exact ⟨by rw [HCK.out]; rfl, T⟩
  | true =>
    rw [if_pos rfl] at hck
    by_cases h : 255 < b.size
    · have hI : (255 : Int) < (b.size : Int) := by omega
      rw [if_pos h] at hck
      have HCK := Lib.hid hck
      clear hck
      go_wp2_with fail
      go_ret
      exact ⟨by rw [HCK.out]; rfl, T⟩
    · have hI : (b.size : Int) ≤ 255 := by omega
      rw [if_neg h] at hck
      have HCK := Lib.hid hck
      clear hck
      go_wp2_with fail
      go_ret
      exact ⟨by rw [HCK.out]; rfl, T⟩
theorem ncheck_any (w : World) (b : ByteArray) (hbz : b.size ≤ 1099511627776) : Calls Tryz.prog 61 #[.string b] w fun e w' => e = .returned (.int .i64 (NM.check (bs b))) ∧ Touch [] w w' := by
  have HL := Lib.hid (fun W => nlabels_any W b hbz)
  go_enter Tryz.func61, Tryz.ntmps61
  go_wp2_with fail
  refine (HL.out _).mono ?_
  rintro e w' ⟨v, rfl, _, T⟩
  go_wp2_with fail
  go_ret
  exact ⟨rfl, T⟩
set_option maxRecDepth 10000 in
theorem rlabels_any (w : World) (b : ByteArray) (hbz : b.size ≤ 1099511627776) : Calls Tryz.prog 74 #[.string b] w fun e w' =>
    ∃ v, e = .returned (.tuple #[v, .int .i64 (NM.check (bs b))]) ∧ TRow w' w.heap.size v (labelsOf (bs b)) ∧ Touch [] w w' := by
  have HC := Lib.hid (fun W => rcheck_any W b hbz)
  have HR := Lib.hid (fun W => rrow_any W b hbz)
  have hl : ∀ {W W' v}, NM.check (bs b) = 0 → RowEnd W W' v (bs b) → TRow W' W.heap.size v (labelsOf (bs b)) := fun {W W' v} h he => by
    unfold labelsOf
    rw [if_pos h]
    refine he.1 ?_
    have := (NM.check_zero h).1
    unfold rowB
    rw [this]
    simp
  have hl0 : NM.check (bs b) ≠ 0 → labelsOf (bs b) = [] := fun h => by unfold labelsOf; rw [if_neg h]
  have HLL := Lib.hid (And.intro (@hl) hl0)
  obtain ⟨c, hc⟩ : ∃ c, c = NM.check (bs b) := ⟨_, rfl⟩
  have HCC := Lib.hid hc
  clear hl hl0 hc
  go_enter Tryz.func74, Tryz.ntmps74
  go_wp2_with fail
  refine (HC.out _).mono ?_
  rintro e w1 ⟨rfl, T⟩
  rw [← HCC.out]
  by_cases h0 : c = 0
  · subst h0
    go_wp2_with fail
    refine (HR.out _).mono ?_
    rintro e w2 ⟨v, rfl, hE⟩
    go_wp2_with fail
    go_ret2
    exact ⟨v, by rw [← HCC.out]; rfl, trow_base (HLL.out.1 HCC.out.symm hE) T.size, T.trans hE.2 (by simp)⟩
  · go_wp2_with fail
    go_ret2
    exact ⟨.slice none 0 0, by rw [← HCC.out]; rfl, by rw [HLL.out.2 (by rw [← HCC.out]; exact h0)]; exact TRow.nil _ _, T⟩
theorem labelsOf_length (l : Bs) : (labelsOf l).length ≤ l.length ∧ ((labelsOf l).length : Int) ≤ 255 ∧ (NM.check l = 0 → (labelsOf l).length = (NM.labels l).length) := by
  unfold labelsOf
  split
  · rename_i h
    have h1 := (NM.check_zero h).2
    have h2 := NM.labels_length l
    rw [List.length_map]
    exact ⟨h2, by omega, fun _ => rfl⟩
  · rename_i h
    exact ⟨Nat.zero_le _, by simp, fun e => absurd e h⟩
theorem depth_eq (l : Bs) : (NM.check l = 0 → NM.depth l = ((labelsOf l).length : Int)) ∧ (NM.check l ≠ 0 → NM.depth l = -1) := by
  unfold NM.depth
  exact ⟨fun h => by rw [if_pos h, (labelsOf_length l).2.2 h], fun h => by rw [if_neg h]⟩
set_option maxRecDepth 10000 in
theorem rdepth_any (w : World) (b : ByteArray) (hbz : b.size ≤ 1099511627776) : Calls Tryz.prog 55 #[.string b] w fun e w' => e = .returned (.int .i64 (NM.depth (bs b))) ∧ Touch [] w w' := by
  have HR := Lib.hid (fun W => rlabels_any W b hbz)
  have hd := depth_eq (bs b)
  obtain ⟨c, hc⟩ : ∃ c, c = NM.check (bs b) := ⟨_, rfl⟩
  rw [← hc] at hd
  have HCC := Lib.hid hc
  have HD := Lib.hid hd
  clear hc hd
  go_enter Tryz.func55, Tryz.ntmps55
  go_wp2_with fail
  refine (HR.out _).mono ?_
  rintro e w1 ⟨v, rfl, hv, T⟩
  rw [← HCC.out]
  obtain ⟨a, cap, rfl, _⟩ := hv.shape
  by_cases h0 : c = 0
  · have h1 := HD.out.1 h0
    have H1 := Lib.hid h1
    clear h1
    subst h0
    go_wp2_with fail
    go_ret
    exact ⟨by rw [H1.out]; rfl, T⟩
  · have h1 := HD.out.2 h0
    have H1 := Lib.hid h1
    clear h1
    go_wp2_with fail
    go_ret
    exact ⟨by rw [H1.out]; rfl, T⟩
set_option maxRecDepth 10000 in
theorem ndepth_any (w : World) (b : ByteArray) (hbz : b.size ≤ 1099511627776) : Calls Tryz.prog 52 #[.string b] w fun e w' => e = .returned (.int .i64 (NM.depth (bs b))) ∧ Touch [] w w' := by
  have HR := Lib.hid (fun W => nlabels_any W b hbz)
  have hd := depth_eq (bs b)
  obtain ⟨c, hc⟩ : ∃ c, c = NM.check (bs b) := ⟨_, rfl⟩
  rw [← hc] at hd
  have HCC := Lib.hid hc
  have HD := Lib.hid hd
  clear hc hd
  go_enter Tryz.func52, Tryz.ntmps52
  go_wp2_with fail
  refine (HR.out _).mono ?_
  rintro e w1 ⟨v, rfl, hv, T⟩
  rw [← HCC.out]
  obtain ⟨a, cap, rfl, _⟩ := hv.shape
  by_cases h0 : c = 0
  · have h1 := HD.out.1 h0
    have H1 := Lib.hid h1
    clear h1
    subst h0
    go_wp2_with fail
    go_ret
    exact ⟨by rw [H1.out]; rfl, T⟩
  · have h1 := HD.out.2 h0
    have H1 := Lib.hid h1
    clear h1
    go_wp2_with fail
    go_ret
    exact ⟨by rw [H1.out]; rfl, T⟩
end Go.Proofs.YtibbfihnhlgkeaaGreat

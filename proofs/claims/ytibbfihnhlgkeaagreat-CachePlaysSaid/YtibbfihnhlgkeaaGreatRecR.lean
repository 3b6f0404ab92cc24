/- The document's records (fingerpostref05): Names, Right, Check. -/
import Derived.Test.YtibbfihnhlgkeaaGreatRecF
import Derived.Test.YtibbfihnhlgkeaaGreatCacheM
namespace Go.Proofs.YtibbfihnhlgkeaaGreat
open Go.RowKit Go.Maps Go.Shelf
open NM (Bs bs ofBs)

def cutB (t : Int) (d : Bs) : Bool := (shape t).2.2.2 && NM.cut (shape t).1.toNat (shape t).2.1.toNat (shape t).2.2.1.toNat d
theorem shape_nat (t : Int) : ∃ (a n b : Nat) (ok : Bool), shape t = ((a : Int), (n : Int), (b : Int), ok) ∧ a ≤ 2 ∧ n ≤ 2 ∧ b ≤ 20 := by
  unfold shape
  split
  · exact ⟨0, 1, 0, true, rfl, by omega, by omega, by omega⟩
  · split
    · exact ⟨2, 1, 0, true, rfl, by omega, by omega, by omega⟩
    · split
      · exact ⟨0, 2, 20, true, rfl, by omega, by omega, by omega⟩
      · exact ⟨0, 0, 0, false, rfl, by omega, by omega, by omega⟩
theorem right_eq (t : Int) (d : Bs) : NM.right t d = if (shape t).2.2.2 = true then cutB t d else if t = 1 then decide (d.length = 4) else if t = 28 then decide (d.length = 16) else if t = 16 then NM.txt d && decide (0 < d.length) else true := by
  unfold NM.right cutB shape
  by_cases h2 : t = 2 ∨ t = 5 ∨ t = 12
  · rw [if_pos h2, if_neg (by omega), if_neg (by omega), if_neg (by omega)]
    rw [if_pos h2]
    simp
  · by_cases h15 : t = 15
    · subst h15; simp
    · by_cases h6 : t = 6
      · subst h6; simp
      · simp [h2, h15, h6]
theorem names_step {n : Nat} {s x more : ByteArray} {ok : Bool} (h : FirstIs s x more ok) : NM.names (n + 1) (bs s) = if ok = true then NM.names n (bs more) else none := by
  show (match NM.first (bs s) with | none => none | some r => NM.names n r) = _
  rcases h with ⟨rfl, h1, _⟩ | ⟨rfl, h1⟩ <;> rw [h1] <;> simp
set_option maxRecDepth 10000 in
set_option maxHeartbeats 2000000 in
theorem rnames_any (w : World) (t : Int) (d : ByteArray) (hd : d.size ≤ 1099511627776) : Calls Tryz.prog 96 #[.int .u16 t, .string d] w fun e w' => ∃ v0 v1 v2, e = .returned (.tuple #[v0, v1, v2, .bool (cutB t (bs d))]) ∧ Touch [] w w' := by
  have hH := fun W => head_any W t
  obtain ⟨a, n, b, ok, hsh, ha, hn, hb⟩ := shape_nat t
  have hr : cutB t (bs d) = (ok && NM.cut a n b (bs d)) := by unfold cutB; rw [hsh]; rfl
  rw [hsh] at hH
  have HH := Lib.hid hH
  obtain ⟨r, hrr⟩ : ∃ r, r = cutB t (bs d) := ⟨_, rfl⟩
  rw [← hrr] at hr ⊢
  have HR := Lib.hid hr
  obtain ⟨i0, hi, hz0, hz1, hz2⟩ := info_parts infoTxt
  have HI := Lib.hid (And.intro hi (And.intro hz0 (And.intro hz1 hz2)))
  clear hH hr hrr hsh hi hz0 hz1 hz2
  go_enter Tryz.func96, Tryz.ntmps96
  go_wp2_with fail
  refine (HH.out _).mono ?_
  rintro e w' ⟨rfl, rfl⟩
  cases ok with
  | false =>
    have hr : r = false := by rw [HR.out]; rfl
    have HR2 := Lib.hid hr
    clear hr
    go_wp2_with fail
    go_returns
    exact ⟨_, _, _, by first | (rw [HR2.out]; rfl) | rw [HR2.out], Touch.refl _ _⟩
  | true =>
    by_cases hlt : d.size < a
    · have hltI : (d.size : Int) < (a : Int) := by omega
      have hr : r = false := by rw [HR.out]; unfold NM.cut; rw [if_pos (by rw [NM.bs_length]; exact hlt)]; rfl
      have HR2 := Lib.hid hr
      clear hr hlt
      go_wp2_with fail
      go_returns
      exact ⟨_, _, _, by first | (rw [HR2.out]; rfl) | rw [HR2.out], Touch.refl _ _⟩
    · have hge : (a : Int) ≤ (d.size : Int) := by omega
      have hgeN : a ≤ d.size := by omega
      have hr : ∀ o, NM.names n (bs (d.extract a d.size)) = o → r = (match o with | none => false | some q => decide (q.length = b)) := fun o ho => by
        rw [HR.out]
        unfold NM.cut
        rw [if_neg (by rw [NM.bs_length]; exact hlt)]
        rw [NM.bs_extract, List.take_of_length_le (by rw [List.length_drop, NM.bs_length]; omega)] at ho
        rw [ho]
        rfl
      have HR2 := Lib.hid hr
      have hz : (d.extract a d.size).size ≤ d.size := by rw [ByteArray.size_extract]; omega
      have HZ := Lib.hid hz
      clear hr hz
      go_wp2_with fail
      obtain ⟨s0, hs0⟩ : ∃ s0, s0 = d.extract a d.size := ⟨_, rfl⟩
      rw [← hs0] at HR2 HZ ⊢
      clear hs0 hlt
      go_loopw [12, 13, 14] (fun s12 s13 u wr => ∃ (i : Nat) (rest : ByteArray) (pre : List ByteArray) (v : Value), s12 = .string rest ∧ v = s13 ∧ u = .int .i64 (i : Int) ∧ i ≤ n ∧ pre.length = i ∧ TRow wr w'.heap.size v pre ∧ Touch [] w' wr ∧ rest.size ≤ d.size ∧ NM.names n (bs s0) = NM.names (n - i) (bs rest)) (fun _ _ u _ => n - (intOf u).toNat)
      case atStart => exact ⟨0, s0, [], _, rfl, rfl, rfl, Nat.zero_le _, rfl, TRow.nil _ _, Touch.refl _ _, HZ.out, by simp⟩
      case round =>
        obtain ⟨i, rest, pre, v, rfl, rfl, rfl, hin, hpl, hR, hT, hrz, hnm⟩ := hrel
        obtain ⟨wo, rfl⟩ : ∃ wo, wo = wr := ⟨_, rfl⟩
        have HRW := Lib.hid hR
        have HT := Lib.hid hT
        have HNM := Lib.hid hnm
        have HPL := Lib.hid hpl
        clear hR hT hnm hpl
        by_cases hlt : i < n
        · have hltI : (i : Int) < (n : Int) := by omega
          have HF := Lib.hid (fun W => first_any W rest (by omega))
          go_wp2_with fail
          refine (HF.out _).mono ?_
          rintro e w1 ⟨x, more, ok, rfl, hfi, T1⟩
          have hst := names_step (n := n - i - 1) hfi
          rw [show n - i - 1 + 1 = n - i by omega] at hst
          have HST := Lib.hid hst
          clear hst
          cases ok with
          | false =>
            have hr : r = false := HR2.out none (by rw [HNM.out, HST.out]; rfl)
            have HR3 := Lib.hid hr
            clear hr
            go_wp2_with fail
            go_returns
            exact ⟨_, _, _, by first | (rw [HR3.out]; rfl) | rw [HR3.out], HT.out.trans T1 (by simp)⟩
          | true =>
            have hmz : more.size ≤ d.size := by
              rcases hfi with ⟨_, _, h⟩ | ⟨h, _⟩
              · omega
              · cases h
            have HMZ := Lib.hid hmz
            have hrow : w1.ownsRow w'.heap.size 9 1 v pre.length (pre.map .string) := trow_touch HRW.out T1 (by simp)
            have HROW := Lib.hid hrow
            have HT1 := Lib.hid (HT.out.trans T1 (by simp))
            have hwr : wrap64 ((i : Int) + 1) = (i : Int) + 1 := IntWalk.wrap64_in _ (by omega)
            clear hrow hmz hfi
            go_wp2_with (at_builtin; refine wpList_append_own _ rfl (.tmp 49) (.tmp 51) 106 rfl w'.heap.size 9 i0 _ 1 16 Tryz.underlying106 HI.out.1 HI.out.2.1 HI.out.2.2.1 HI.out.2.2.2 rfl (by decide) v pre.length _ rfl (HROW.out.alloc _) ⟨w1.heap.size, 0, none⟩ 1 1 [.string x] rfl rfl (cell_one_new _ _ _) (by simp [Value.oneCell']) (by unfold maxLen; have := HPL.out; omega) (by have := HPL.out; omega) (by have := HT1.out.size; simp; omega) ?_; intro v' w2 hown' hgrow _; obtain ⟨g', cap', rfl⟩ := ownsRow_succ hown')
            have T2 : Touch [] w' w2 := (HT1.out.alloc _).trans (Touch.of_grown hgrow) (fun k hk => .inr (HROW.out.lt k (by simpa using hk)).1)
            have hR2 : TRow w2 w'.heap.size (.slice (some ⟨g', 0, none⟩) (pre.length + 1) cap') (pre ++ [x]) := by
              unfold TRow
              rw [List.map_append, List.length_append]
              exact hown'
            have HR2' := Lib.hid hR2
            have HT2 := Lib.hid T2
            clear hR2 T2 hown' hgrow
            go_roundw
            case rel => exact ⟨i + 1, more, pre ++ [x], _, rfl, rfl, rfl, hlt, by rw [List.length_append, HPL.out]; rfl, HR2'.out, HT2.out, HMZ.out, by rw [HNM.out, HST.out]; rfl⟩
            case measure =>
              have q8 : (intOf (.int .i64 ((i : Int) + 1))).toNat = i + 1 := by show ((i : Int) + 1).toNat = i + 1; omega
              have q9 : (intOf (.int .i64 (i : Int))).toNat = i := rfl
              exact lt_of_eq2 q8 q9 (Nat.sub_lt_sub_left hlt (Nat.lt_succ_self i))
        · have hgeI : (n : Int) ≤ (i : Int) := by omega
          have hr := HR2.out _ (by rw [HNM.out, show n - i = 0 by omega, NM.names])
          have hr2 : r = ((rest.size : Int) == (b : Int)) := by
            rw [hr]
            show decide ((bs rest).length = b) = decide ((rest.size : Int) = (b : Int))
            rw [NM.bs_length, decide_eq_decide]
            omega
          have HR3 := Lib.hid hr2
          clear hr hr2
          go_wp2_with fail
          go_returns
          exact ⟨_, _, _, by first | (rw [HR3.out]; rfl) | rw [HR3.out], HT.out⟩
set_option maxRecDepth 10000 in
set_option maxHeartbeats 1000000 in
theorem rright_any (w : World) (t : Int) (d : ByteArray) (hd : d.size ≤ 1099511627776) : Calls Tryz.prog 80 #[.int .u16 t, .string d] w fun e w' => e = .returned (.bool (NM.right t (bs d))) ∧ Touch [] w w' := by
  have hH := fun W => head_any W t
  have HN := Lib.hid (fun W => rnames_any W t d hd)
  have hr := right_eq t (bs d)
  obtain ⟨a, n, b, ok, hsh, _, _, _⟩ := shape_nat t
  rw [hsh] at hH hr
  have HH := Lib.hid hH
  obtain ⟨r, hrr⟩ : ∃ r, r = NM.right t (bs d) := ⟨_, rfl⟩
  rw [← hrr, NM.bs_length] at hr
  rw [← hrr]
  obtain ⟨cb, hcb⟩ : ∃ cb, cb = cutB t (bs d) := ⟨_, rfl⟩
  rw [← hcb] at hr HN
  have HR := Lib.hid hr
  clear hH hr hrr hsh hcb
  go_enter Tryz.func80, Tryz.ntmps80
  go_wp2_with fail
  refine (HH.out _).mono ?_
  rintro e w' ⟨rfl, rfl⟩
  cases ok with
  | true =>
    go_wp2_with fail
    refine (HN.out _).mono ?_
    rintro e w1 ⟨v0, v1, v2, rfl, T⟩
    go_wp2_with fail
    go_ret
    exact ⟨by rw [HR.out]; rfl, T⟩
  | false =>
    have hr : r = if t = 1 then decide (d.size = 4) else if t = 28 then decide (d.size = 16) else if t = 16 then NM.txt (bs d) && decide (0 < d.size) else true := HR.out
    have HR2 := Lib.hid hr
    clear hr HR
    by_cases h1 : t = 1
    · subst h1
      have hr : r = ((d.size : Int) == 4) := by
        rw [HR2.out, if_pos rfl]
        show decide (d.size = 4) = decide ((d.size : Int) = 4)
        rw [decide_eq_decide]; omega
      have HR3 := Lib.hid hr
      clear hr
      go_wp2_with fail
      go_ret
      exact ⟨by rw [HR3.out]; rfl, Touch.refl _ _⟩
    · by_cases h28 : t = 28
      · subst h28
        have hr : r = ((d.size : Int) == 16) := by
          rw [HR2.out, if_neg (by decide), if_pos rfl]
          show decide (d.size = 16) = decide ((d.size : Int) = 16)
          rw [decide_eq_decide]; omega
        have HR3 := Lib.hid hr
        clear hr
        go_wp2_with fail
        go_ret
        exact ⟨by rw [HR3.out]; rfl, Touch.refl _ _⟩
      · by_cases h16 : t = 16
        · subst h16
          have hr : r = (NM.txt (bs d) && decide (0 < d.size)) := by
            rw [HR2.out, if_neg (by decide), if_neg (by decide), if_pos rfl]
          have HR3 := Lib.hid hr
          clear hr h1 h28 HR2
          go_wp2_with fail
          go_loopw [13] (fun v wr => wr = w' ∧ ∃ i : Nat, v = .int .i64 (i : Int) ∧ i ≤ d.size + 255 ∧ (i ≤ d.size → NM.txt (bs d) = NM.txt ((bs d).drop i)) ∧ (d.size < i → NM.txt (bs d) = false)) (fun v _ => d.size - (intOf v).toNat)
          case atStart => exact ⟨rfl, 0, rfl, by omega, fun _ => by simp, fun h => by omega⟩
          case round =>
            obtain ⟨rfl, i, rfl, hi, hk, hk2⟩ := hrel
            have HK := Lib.hid hk
            have HK2 := Lib.hid hk2
            clear hk hk2
            by_cases hlt : i < d.size
            · have hltI : (i : Int) < (d.size : Int) := by omega
              have hdr := NM.bs_drop d i hlt
              obtain ⟨c, hc⟩ : ∃ c, d[i] = c := ⟨_, rfl⟩
              rw [hc] at hdr
              have hw2 : wrap64 ((i : Int) + 1) = (i : Int) + 1 := IntWalk.wrap64_in _ (by omega)
              have hc255 := c.toNat_lt
              have hwc : wrap64 (c.toNat : Int) = (c.toNat : Int) := IntWalk.wrap64_in _ (by omega)
              have hw3 : wrap64 ((i : Int) + 1 + (c.toNat : Int)) = (i : Int) + 1 + (c.toNat : Int) := IntWalk.wrap64_in _ (by omega)
              have hlen : ((bs d).drop (i + 1)).length = d.size - (i + 1) := by rw [List.length_drop, NM.bs_length]
              have hA : i + (c.toNat + 1) ≤ d.size → NM.txt (bs d) = NM.txt ((bs d).drop (i + (c.toNat + 1))) := fun h => by
                rw [HK.out (by omega), hdr, NM.txt_go (by rw [hlen]; omega), List.drop_drop]
                congr 2
                omega
              have hB : d.size < i + (c.toNat + 1) → NM.txt (bs d) = false := fun h => by
                rw [HK.out (by omega), hdr, NM.txt_bad (by rw [hlen]; omega)]
              have HA := Lib.hid (And.intro hA hB)
              clear hA hB hdr hlen
              go_wp2_with fail
              go_roundw
              case rel => exact ⟨trivial, i + (c.toNat + 1), by congr 1; omega, by omega, HA.out.1, HA.out.2⟩
              case measure => simp [intOf]; omega
            · have hge : (d.size : Int) ≤ (i : Int) := by omega
              by_cases hq : i = d.size
              · subst hq
                by_cases h0 : d.size = 0
                · have h0I : (d.size : Int) = 0 := by omega
                  have hr : r = false := by rw [HR3.out]; simp [h0]
                  have HR4 := Lib.hid hr
                  clear hr h0
                  go_wp2_with fail
                  go_ret
                  exact ⟨by rw [HR4.out]; rfl, Touch.refl _ _⟩
                · have h0I : 0 < (d.size : Int) := by omega
                  have hr : r = decide (0 < d.size) := by
                    rw [HR3.out, HK.out (Nat.le_refl _), List.drop_of_length_le (by rw [NM.bs_length]; exact Nat.le_refl _), NM.txt_nil]
                    rfl
                  have HR4 := Lib.hid hr
                  clear hr h0
                  go_wp2_with fail
                  go_ret
                  exact ⟨by rw [HR4.out]; rfl, Touch.refl _ _⟩
              · have hqI : ((i : Int) == (d.size : Int)) = false := by simp; omega
                have hqI2 : ¬ (i : Int) = (d.size : Int) := by omega
                have hr : r = false := by rw [HR3.out, HK2.out (by omega)]; rfl
                have HR4 := Lib.hid hr
                clear hr hq
                go_wp2_with fail
                go_ret
                exact ⟨by rw [HR4.out]; rfl, Touch.refl _ _⟩
        · have hr : r = true := by rw [HR2.out, if_neg h1, if_neg h28, if_neg h16]
          have HR3 := Lib.hid hr
          clear hr
          go_wp2_with fail
          go_ret
          exact ⟨by rw [HR3.out]; rfl, Touch.refl _ _⟩
/-- a record's cells -/
def recV (r : CM.R) : Array Value := #[.string r.name, .int .u16 r.type, .int .u16 r.cls, .int .u32 r.ttl, .string r.data]
/-- a record's texts are no longer than they may be -/
def RFits (r : CM.R) : Prop := r.name.size ≤ 1099511627776 ∧ r.data.size ≤ 1099511627776
theorem rcheck_eq (n : Bs) (t : Int) (d : Bs) : NM.rcheck n t d = if NM.check n ≠ 0 then NM.check n else if 2000 < d.length then 11 else if NM.right t d = true then 0 else 10 := rfl
set_option maxRecDepth 10000 in
set_option maxHeartbeats 1000000 in
theorem rrec_any (w : World) (r : CM.R) (hr : RFits r) : Calls Tryz.prog 69 #[.agg (recV r)] w fun e w' => e = .returned (.int .i64 (NM.rcheck (bs r.name) r.type (bs r.data))) ∧ Touch [] w w' := by
  obtain ⟨n, t, c, ttl, d⟩ := r
  obtain ⟨hn, hd⟩ := hr
  simp only at hn hd
  show Calls Tryz.prog 69 #[.agg #[.string n, .int .u16 t, .int .u16 c, .int .u32 ttl, .string d]] w fun e w' => e = .returned (.int .i64 (NM.rcheck (bs n) t (bs d))) ∧ Touch [] w w'
  have HC := Lib.hid (fun W => rcheck_any W n hn)
  have HR := Lib.hid (fun W => rright_any W t d hd)
  have hq := rcheck_eq (bs n) t (bs d)
  obtain ⟨k, hk⟩ : ∃ k, k = NM.check (bs n) := ⟨_, rfl⟩
  obtain ⟨g, hg⟩ : ∃ g, g = NM.right t (bs d) := ⟨_, rfl⟩
  obtain ⟨q, hqq⟩ : ∃ q, q = NM.rcheck (bs n) t (bs d) := ⟨_, rfl⟩
  rw [← hqq, ← hk, ← hg, NM.bs_length] at hq
  rw [← hqq]
  rw [← hk] at HC
  rw [← hg] at HR
  have HQ := Lib.hid hq
  clear hq hqq hk hg
  go_enter Tryz.func69, Tryz.ntmps69
  have hB := Blk.new w 60 #[.string n, .int .u16 t, .int .u16 c, .int .u32 ttl, .string d]
  have T0 := (Touch.refl [] w).alloc (.cells #[.string n, .int .u16 t, .int .u16 c, .int .u32 ttl, .string d] 60)
  go_wp2_with fail
  refine (HC.out _).mono ?_
  rintro e w1 ⟨rfl, T1⟩
  have hB1 := T1.blk hB (by simp)
  have c1 := hB1.cell 1
  have c4 := hB1.cell 4
  have HT := Lib.hid (T0.trans T1 (by simp))
  clear hB hB1 T0 T1
  by_cases h0 : k = 0
  · subst h0
    by_cases h2 : 2000 < d.size
    · have h2I : (2000 : Int) < (d.size : Int) := by omega
      have hq : q = 11 := by rw [HQ.out, if_neg (by decide), if_pos h2]
      have HQ2 := Lib.hid hq
      clear hq h2
      go_wp2_with fail
      go_ret
      exact ⟨by rw [HQ2.out]; rfl, HT.out⟩
    · have h2I : (d.size : Int) ≤ 2000 := by omega
      have hq : q = if g = true then 0 else 10 := by rw [HQ.out, if_neg (by decide), if_neg h2]
      have HQ2 := Lib.hid hq
      clear hq h2
      go_wp2_with fail
      refine (HR.out _).mono ?_
      rintro e w2 ⟨rfl, T2⟩
      cases g with
      | true =>
        go_wp2_with fail
        go_ret
        exact ⟨by rw [HQ2.out]; rfl, HT.out.trans T2 (by simp)⟩
      | false =>
        go_wp2_with fail
        go_ret
        exact ⟨by rw [HQ2.out]; rfl, HT.out.trans T2 (by simp)⟩
  · have hq : q = k := by rw [HQ.out, if_pos h0]
    have HQ2 := Lib.hid hq
    clear hq
    go_wp2_with fail
    go_ret
    exact ⟨by rw [HQ2.out]; rfl, HT.out⟩
end Go.Proofs.YtibbfihnhlgkeaaGreat

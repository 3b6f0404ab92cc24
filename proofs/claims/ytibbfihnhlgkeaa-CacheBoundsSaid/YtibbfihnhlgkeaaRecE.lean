/- Package record: right, Check. -/
import Derived.Test.YtibbfihnhlgkeaaRecD
namespace Go.Proofs.Ytibbfihnhlgkeaa
open Go.RowKit Go.Maps Go.Shelf
open NM (Bs bs ofBs)

theorem shape_nat2 (t : Int) : ∃ (a n b : Nat) (ok : Bool), shape t = ((a : Int), (n : Int), (b : Int), ok) ∧ a ≤ 2 ∧ n ≤ 2 ∧ b ≤ 20 ∧ (ok = false → a = 0 ∧ n = 0 ∧ b = 0) ∧ (ok = true → n ≠ 0 ∧ t ≠ 1 ∧ t ≠ 28 ∧ t ≠ 16) := by
  unfold shape
  split
  · exact ⟨0, 1, 0, true, rfl, by omega, by omega, by omega, fun h => absurd h (by decide), fun _ => by omega⟩
  · split
    · exact ⟨2, 1, 0, true, rfl, by omega, by omega, by omega, fun h => absurd h (by decide), fun _ => by omega⟩
    · split
      · exact ⟨0, 2, 20, true, rfl, by omega, by omega, by omega, fun h => absurd h (by decide), fun _ => by omega⟩
      · exact ⟨0, 0, 0, false, rfl, by omega, by omega, by omega, fun _ => ⟨rfl, rfl, rfl⟩, fun h => absurd h (by decide)⟩
theorem not_empty {d : ByteArray} (h : 0 < d.size) : d.toList.isEmpty = false := by
  rw [ByteArray.toList_eq]
  cases hl : d.data.toList with
  | nil => have := NM.bs_length d; unfold NM.bs at this; rw [hl] at this; simp at this; omega
  | cons => rfl
set_option maxRecDepth 10000 in
set_option maxHeartbeats 1000000 in
theorem nright_any (w : World) (t : Int) (d : ByteArray) (hd : d.size ≤ 1099511627776) : Calls Try.prog 56 #[.int .u16 t, .string d] w fun e w' => e = .returned (.bool (NM.right t (bs d))) ∧ Touch [] w w' := by
  have HH := Lib.hid (fun W => shapeOf_any W t)
  obtain ⟨a, n, b, ok, hsh, ha, hn, hb, hsn, hso⟩ := shape_nat2 t
  have HC := Lib.hid (fun W => cut_any W a n b ha hn hb d hd)
  have hr := right_eq t (bs d)
  have hcb : cutB t (bs d) = (ok && NM.cut a n b (bs d)) := by unfold cutB; rw [hsh]; rfl
  rw [hsh] at HH hr
  rw [hcb] at hr
  obtain ⟨r, hrr⟩ : ∃ r, r = NM.right t (bs d) := ⟨_, rfl⟩
  rw [← hrr, NM.bs_length] at hr
  rw [← hrr]
  obtain ⟨cb, hcc⟩ : ∃ cb, cb = NM.cut a n b (bs d) := ⟨_, rfl⟩
  rw [← hcc] at hr HC
  replace hr : r = if ok = true then (ok && cb) else if t = 1 then decide (d.size = 4) else if t = 28 then decide (d.size = 16) else if t = 16 then NM.txt (bs d) && decide (0 < d.size) else true := hr
  have HR := Lib.hid hr
  have HS := Lib.hid (And.intro hsn hso)
  have HD := Lib.hid hd
  clear hr hrr hsh hcc hcb hsn hso ha hn hb
  by_cases h1 : t = 1
  · subst h1
    have hr : r = ((d.size : Int) == 4) := by
      cases ok with
      | true => exact absurd rfl (HS.out.2 rfl).2.1
      | false =>
        rw [HR.out, if_neg (by decide), if_pos rfl]
        show decide (d.size = 4) = decide ((d.size : Int) = 4)
        rw [decide_eq_decide]; omega
    have HR3 := Lib.hid hr
    clear hr hd
    go_enter Try.func56, Try.ntmps56
    go_wp2_with fail
    go_ret
    exact ⟨by rw [HR3.out]; rfl, Touch.refl _ _⟩
  · by_cases h28 : t = 28
    · subst h28
      have hr : r = ((d.size : Int) == 16) := by
        cases ok with
        | true => exact absurd rfl (HS.out.2 rfl).2.2.1
        | false =>
          rw [HR.out, if_neg (by decide), if_neg (by decide), if_pos rfl]
          show decide (d.size = 16) = decide ((d.size : Int) = 16)
          rw [decide_eq_decide]; omega
      have HR3 := Lib.hid hr
      clear hr hd
      go_enter Try.func56, Try.ntmps56
      go_wp2_with fail
      go_ret
      exact ⟨by rw [HR3.out]; rfl, Touch.refl _ _⟩
    · by_cases h16 : t = 16
      · subst h16
        have hr : r = (NM.txt (bs d) && decide (0 < d.size)) := by
          cases ok with
          | true => exact absurd rfl (HS.out.2 rfl).2.2.2
          | false => rw [HR.out, if_neg (by decide), if_neg (by decide), if_neg (by decide), if_pos rfl]
        have HR3 := Lib.hid hr
        clear hr h1 h28 HR hd
        go_enter Try.func56, Try.ntmps56
        go_wp2_with fail
        go_loopw [5] (fun v wr => wr = w ∧ ∃ i : Nat, v = .int .i64 (i : Int) ∧ i ≤ d.size + 255 ∧ (i ≤ d.size → NM.txt (bs d) = NM.txt ((bs d).drop i)) ∧ (d.size < i → NM.txt (bs d) = false)) (fun v _ => d.size - (intOf v).toNat)
        case atStart => exact ⟨rfl, 0, rfl, by omega, fun _ => by simp, fun h => by omega⟩
        case round =>
          obtain ⟨rfl, i, rfl, hi, hk, hk2⟩ := hrel
          have HK := Lib.hid hk
          have HK2 := Lib.hid hk2
          clear hk hk2
          by_cases hlt : i < d.size
          · have hltI : (i : Int) < (d.size : Int) := by omega
            have hdr := NM.bs_drop d i hlt
            obtain ⟨c, hc⟩ : ∃ c, d[i] = c := ⟨_, rfl⟩
            rw [hc] at hdr
            have hc255 := c.toNat_lt
            have hdz := HD.out
            have hlen : ((bs d).drop (i + 1)).length = d.size - (i + 1) := by rw [List.length_drop, NM.bs_length]
            have hA : i + (c.toNat + 1) ≤ d.size → NM.txt (bs d) = NM.txt ((bs d).drop (i + (c.toNat + 1))) := fun h => by
              rw [HK.out (by omega), hdr, NM.txt_go (by rw [hlen]; omega), List.drop_drop]
              congr 2
              omega
            have hB : d.size < i + (c.toNat + 1) → NM.txt (bs d) = false := fun h => by
              rw [HK.out (by omega), hdr, NM.txt_bad (by rw [hlen]; omega)]
            have hz1 : -9223372036854775808 ≤ (c.toNat : Int) ∧ (c.toNat : Int) ≤ 9223372036854775807 := by omega
            have hz2 : -9223372036854775808 ≤ 1 + (c.toNat : Int) ∧ 1 + (c.toNat : Int) ≤ 9223372036854775807 := by omega
            have hz3 : -9223372036854775808 ≤ (i : Int) + (1 + (c.toNat : Int)) ∧ (i : Int) + (1 + (c.toNat : Int)) ≤ 9223372036854775807 := by omega
            have hr1 : (i : Int) + (1 + (c.toNat : Int)) = ((i + (c.toNat + 1) : Nat) : Int) := by omega
            have hr2 : i + (c.toNat + 1) ≤ d.size + 255 := by omega
            have hr3 : d.size - (i + (c.toNat + 1)) < d.size - i := by omega
            have HA := Lib.hid (And.intro hA (And.intro hB (And.intro hr1 (And.intro hr2 hr3))))
            have hwc : wrap64 (c.toNat : Int) = (c.toNat : Int) := IntWalk.wrap64_in _ hz1
            have hw3 : wrap64 (1 + (c.toNat : Int)) = 1 + (c.toNat : Int) := IntWalk.wrap64_in _ hz2
            have hw4 : wrap64 ((i : Int) + (1 + (c.toNat : Int))) = (i : Int) + (1 + (c.toNat : Int)) := IntWalk.wrap64_in _ hz3
            have HW4 := Lib.hid hw4
            clear hA hB hdr hlen hr1 hr2 hr3 hz1 hz2 hz3 hdz hc255 hi
            go_wp2_with fail
            go_roundw
            case rel =>
              obtain ⟨a1, a2, a3, a4, a5⟩ := HA.out
              exact ⟨trivial, i + (c.toNat + 1), by first | rw [HW4.out, a3] | rw [a3], a4, a1, a2⟩
            case measure =>
              obtain ⟨a1, a2, a3, a4, a5⟩ := HA.out
              exact lt_sub_of (by first | (rw [HW4.out, a3]; rfl) | (show ((i : Int) + (1 + (c.toNat : Int))).toNat = i + (c.toNat + 1); rw [a3]; rfl)) rfl a5
          · have hge : (d.size : Int) ≤ (i : Int) := by omega
            by_cases hq : i = d.size
            · subst hq
              have hr : r = decide (0 < d.size) := by
                rw [HR3.out, HK.out (Nat.le_refl _), List.drop_of_length_le (by rw [NM.bs_length]; exact Nat.le_refl _), NM.txt_nil]
                rfl
              have HR4 := Lib.hid hr
              clear hr hi hlt
              by_cases h0 : d = ⟨#[]⟩
              · subst h0
                have hr : r = false := by rw [HR4.out]; rfl
                have HR5 := Lib.hid hr
                clear hr
                go_wp2_with fail
                go_ret
                exact ⟨by rw [HR5.out]; rfl, Touch.refl _ _⟩
              · have hz : 0 < d.size := by
                  rcases Nat.eq_zero_or_pos d.size with h | h
                  · exact absurd (NM.bs_inj (by rw [List.length_eq_zero_iff.1 (show (bs d).length = 0 by rw [NM.bs_length]; exact h)]; rfl)) h0
                  · exact h
                have hr : r = true := by rw [HR4.out]; exact decide_eq_true hz
                have HR5 := Lib.hid hr
                have hzI : (0 : Int) < (d.size : Int) := by omega
                have he := not_empty hz
                clear hr
                go_wp2_with fail
                go_ret
                exact ⟨by rw [HR5.out]; rfl, Touch.refl _ _⟩
            · have hqI2 : ¬ (i : Int) = (d.size : Int) := by omega
              have hr : r = false := by rw [HR3.out, HK2.out (by omega)]; rfl
              have HR4 := Lib.hid hr
              clear hr hq hi hlt
              go_wp2_with fail
              go_ret
              exact ⟨by rw [HR4.out]; rfl, Touch.refl _ _⟩
      · have hr : r = if ok = true then cb else true := by
          cases ok with
          | true => rw [HR.out]; simp
          | false => rw [HR.out, if_neg (by decide), if_neg h1, if_neg h28, if_neg h16]; rfl
        have HR3 := Lib.hid hr
        clear hr hd
        go_enter Try.func56, Try.ntmps56
        go_wp2_with fail
        refine (HH.out _).mono ?_
        rintro e w1 ⟨rfl, T1⟩
        go_wp2_with fail
        refine (HC.out _).mono ?_
        rintro e w2 ⟨s0, s1, ad, l, cc, rfl, T2⟩
        have T3 := (T1.trans T2 (by simp)).alloc (.cells #[.string s0, .string s1, .slice ad l cc] 117)
        have HT := Lib.hid T3
        clear T1 T2 T3
        cases cb with
        | true =>
          have hr : r = true := by rw [HR3.out]; cases ok <;> rfl
          have HR4 := Lib.hid hr
          clear hr
          go_wp2_with fail
          go_ret
          exact ⟨by rw [HR4.out]; rfl, HT.out⟩
        | false =>
          cases ok with
          | true =>
            have hr : r = false := by rw [HR3.out]; rfl
            have HR4 := Lib.hid hr
            have hn0 : (n : Int) ≠ 0 := by have := (HS.out.2 rfl).1; omega
            have hn1 : ((n : Int) == 0) = false := by simpa using hn0
            clear hr
            go_wp2_with fail
            refine (HH.out _).mono ?_
            rintro e w3 ⟨rfl, T4⟩
            go_wp2_with fail
            go_ret
            exact ⟨by rw [HR4.out]; rfl, HT.out.trans T4 (by simp)⟩
          | false =>
            have hr : r = true := by rw [HR3.out]; rfl
            have HR4 := Lib.hid hr
            obtain ⟨rfl, rfl, rfl⟩ := HS.out.1 rfl
            clear hr
            go_wp2_with fail
            refine (HH.out _).mono ?_
            rintro e w3 ⟨rfl, T4⟩
            go_wp2_with fail
            go_ret
            exact ⟨by rw [HR4.out]; rfl, HT.out.trans T4 (by simp)⟩
set_option maxRecDepth 10000 in
set_option maxHeartbeats 1000000 in
theorem nrec_any (w : World) (r : CM.R) (hr : RFits r) : Calls Try.prog 36 #[.agg (recV r)] w fun e w' => e = .returned (.int .i64 (NM.rcheck (bs r.name) r.type (bs r.data))) ∧ Touch [] w w' := by
  obtain ⟨n, t, c, ttl, d⟩ := r
  obtain ⟨hn, hd⟩ := hr
  simp only at hn hd
  show Calls Try.prog 36 #[.agg #[.string n, .int .u16 t, .int .u16 c, .int .u32 ttl, .string d]] w fun e w' => e = .returned (.int .i64 (NM.rcheck (bs n) t (bs d))) ∧ Touch [] w w'
  have HC := Lib.hid (fun W => ncheck_any W n hn)
  have HR := Lib.hid (fun W => nright_any W t d hd)
  have hq := rcheck_eq (bs n) t (bs d)
  obtain ⟨k, hk⟩ : ∃ k, k = NM.check (bs n) := ⟨_, rfl⟩
  obtain ⟨g, hg⟩ : ∃ g, g = NM.right t (bs d) := ⟨_, rfl⟩
  obtain ⟨q, hqq⟩ : ∃ q, q = NM.rcheck (bs n) t (bs d) := ⟨_, rfl⟩
  rw [← hqq, ← hk, ← hg, NM.bs_length] at hq
  rw [← hqq]
  rw [← hk] at HC
  rw [← hg] at HR
  have HQ := Lib.hid hq
  clear hq hqq hk hg hn hd
  go_enter Try.func36, Try.ntmps36
  have hB := Blk.new w 68 #[.string n, .int .u16 t, .int .u16 c, .int .u32 ttl, .string d]
  have T0 := (Touch.refl [] w).alloc (.cells #[.string n, .int .u16 t, .int .u16 c, .int .u32 ttl, .string d] 68)
  go_wp2_with fail
  refine (HC.out _).mono ?_
  rintro e w1 ⟨rfl, T1⟩
  have hB1 := T1.blk hB (by simp)
  have c1 : w1.cell? ⟨w.heap.size, 1, none⟩ = some (.int .u16 t) := hB1.cell 1
  have c4 : w1.cell? ⟨w.heap.size, 4, none⟩ = some (.string d) := hB1.cell 4
  have HT := Lib.hid (T0.trans T1 (by simp))
  clear hB hB1 T0 T1
  by_cases h0 : k = 0
  · subst h0
    by_cases h2 : 2000 < d.size
    · have h2I : (2000 : Int) < (d.size : Int) := by omega
      have hq : q = 11 := by rw [HQ.out, if_neg (by decide), if_pos h2]
      have HQ2 := Lib.hid hq
      clear hq h2
      go_wp2_with fail
      go_ret
      exact ⟨by rw [HQ2.out]; rfl, HT.out⟩
    · have h2I : (d.size : Int) ≤ 2000 := by omega
      have hq : q = if g = true then 0 else 10 := by rw [HQ.out, if_neg (by decide), if_neg h2]
      have HQ2 := Lib.hid hq
      clear hq h2
      go_wp2_with fail
      refine (HR.out _).mono ?_
      rintro e w2 ⟨rfl, T2⟩
      cases g with
      | true =>
        go_wp2_with fail
        go_ret
        exact ⟨by rw [HQ2.out]; rfl, HT.out.trans T2 (by simp)⟩
      | false =>
        go_wp2_with fail
        go_ret
        exact ⟨by rw [HQ2.out]; rfl, HT.out.trans T2 (by simp)⟩
  · have hq : q = k := by rw [HQ.out, if_pos h0]
    have HQ2 := Lib.hid hq
    clear hq
    go_wp2_with fail
    go_ret
    exact ⟨by rw [HQ2.out]; rfl, HT.out⟩
end Go.Proofs.Ytibbfihnhlgkeaa

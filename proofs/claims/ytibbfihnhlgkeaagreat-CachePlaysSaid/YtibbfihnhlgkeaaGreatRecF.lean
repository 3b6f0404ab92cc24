/- The document's records (fingerpostref05): Check. -/
import Derived.Test.YtibbfihnhlgkeaaGreatNameT
import Derived.Handy
namespace Go.Proofs.YtibbfihnhlgkeaaGreat
open Go.RowKit Go.Maps Go.Shelf
open NM (Bs bs ofBs)

/-- what first tells -/
def FirstIs (s x more : ByteArray) (ok : Bool) : Prop := (ok = true ∧ NM.first (bs s) = some (bs more) ∧ more.size ≤ s.size) ∨ (ok = false ∧ NM.first (bs s) = none)
theorem first_some {s : ByteArray} {i : Nat} (hi : i < s.size) (h : NM.skip (bs s) = (bs s).drop i) : NM.first (bs s) = if NM.check ((bs s).take (i + 1)) = 0 then some ((bs s).drop (i + 1)) else none := by
  unfold NM.first
  have hl : (bs s).length - ((bs s).drop i).length = i := by rw [List.length_drop, NM.bs_length]; omega
  have hne : (bs s).drop i ≠ [] := fun e => by have := congrArg List.length e; rw [List.length_drop, NM.bs_length] at this; simp at this; omega
  rw [h, if_neg hne, hl]
theorem first_none {s : ByteArray} (h : NM.skip (bs s) = []) : NM.first (bs s) = none := by
  unfold NM.first
  rw [if_pos h]
set_option maxRecDepth 10000 in
set_option maxHeartbeats 1000000 in
theorem first_any (w : World) (s : ByteArray) (hs : s.size ≤ 1099511627776) : Calls Tryz.prog 104 #[.string s] w fun e w' => ∃ x more ok, e = .returned (.tuple #[.string x, .string more, .bool ok]) ∧ FirstIs s x more ok ∧ Touch [] w w' := by
  go_enter Tryz.func104, Tryz.ntmps104
  go_wp2_with fail
  go_loopw [5] (fun v wr => wr = w ∧ ∃ i : Nat, v = .int .i64 (i : Int) ∧ i ≤ s.size + 255 ∧ NM.skip (bs s) = NM.skip ((bs s).drop i)) (fun v _ => s.size - (intOf v).toNat)
  case atStart => exact ⟨rfl, 0, rfl, by omega, by simp⟩
  case round =>
    obtain ⟨rfl, i, rfl, hi, hk⟩ := hrel
    have HK := Lib.hid hk
    clear hk
    by_cases hlt : i < s.size
    · have hltI : (i : Int) < (s.size : Int) := by omega
      have hdr := NM.bs_drop s i hlt
      obtain ⟨c, hc⟩ : ∃ c, s[i] = c := ⟨_, rfl⟩
      rw [hc] at hdr
      have hw2 : wrap64 ((i : Int) + 1) = (i : Int) + 1 := IntWalk.wrap64_in _ (by omega)
      have hlI : (i : Int) + 1 ≤ (s.size : Int) := by omega
      by_cases h0 : c = 0
      · subst h0
        have hz : s[i].toNat = 0 := by rw [hc]; rfl
        have hf := first_some hlt (by rw [HK.out, hdr, NM.skip_zero])
        rw [← show bs (s.extract 0 (i + 1)) = (bs s).take (i + 1) by rw [NM.bs_extract]; simp, ← show bs (s.extract (i + 1) s.size) = (bs s).drop (i + 1) by rw [NM.bs_extract, List.take_of_length_le (by rw [List.length_drop, NM.bs_length]; omega)]] at hf
        have HC := Lib.hid (fun W => rcheck_any W (s.extract 0 (i + 1)) (by rw [ByteArray.size_extract]; omega))
        obtain ⟨k, hk⟩ : ∃ k, k = NM.check (bs (s.extract 0 (i + 1))) := ⟨_, rfl⟩
        rw [← hk] at hf HC
        have HF := Lib.hid hf
        have HZ := Lib.hid (show (s.extract (i + 1) s.size).size ≤ s.size by rw [ByteArray.size_extract]; omega)
        have hgeN : ¬ s.size ≤ i := by omega
        have hx2 : IntKind.i64.wrap ((i : Int) + 1) = (i : Int) + 1 := IntWalk.i64_in _ (by omega)
        clear hf hk hdr hc
        go_wp2_with fail
        refine (HC.out _).mono ?_
        rintro e w1 ⟨rfl, T⟩
        by_cases h1 : k = 0
        · subst h1
          go_wp2_with fail
          go_region
          all_goals (go_wp2_with fail; go_returns)
          all_goals exact ⟨_, _, _, rfl, .inl ⟨rfl, by rw [HF.out]; simp, HZ.out⟩, T.drewN_ _⟩
        · go_wp2_with fail
          go_returns
          exact ⟨_, _, _, rfl, .inr ⟨rfl, by rw [HF.out, if_neg h1]⟩, T⟩
      · have hcn : c.toNat ≠ 0 := fun e => h0 (UInt8.toNat_inj.1 e)
        have hcnI : (c.toNat : Int) ≠ 0 := by omega
        have hc255 := c.toNat_lt
        have hwc : wrap64 (c.toNat : Int) = (c.toNat : Int) := IntWalk.wrap64_in _ (by omega)
        have hw3 : wrap64 ((i : Int) + 1 + (c.toNat : Int)) = (i : Int) + 1 + (c.toNat : Int) := IntWalk.wrap64_in _ (by omega)
        have hk2 : NM.skip (bs s) = NM.skip ((bs s).drop (i + (c.toNat + 1))) := by
          rw [HK.out, hdr, NM.skip_go h0, List.drop_drop]
          congr 2
          omega
        have HK2 := Lib.hid hk2
        clear hk2 hdr
        go_wp2_with fail
        go_roundw
        case rel => exact ⟨trivial, i + (c.toNat + 1), by congr 1; omega, by omega, HK2.out⟩
        case measure => simp [intOf]; omega
    · have hge : (s.size : Int) ≤ (i : Int) := by omega
      have hf := first_none (s := s) (by rw [HK.out, List.drop_of_length_le (by rw [NM.bs_length]; omega), NM.skip_nil])
      have HF := Lib.hid hf
      clear hf
      go_wp2_with fail
      go_returns
      exact ⟨_, _, _, rfl, .inr ⟨rfl, HF.out⟩, Touch.refl _ _⟩
/-- a type's shape: so many bytes, so many names, so many bytes; false: it has no names -/
def shape (t : Int) : Int × Int × Int × Bool :=
  if t = 2 ∨ t = 5 ∨ t = 12 then (0, 1, 0, true) else if t = 15 then (2, 1, 0, true) else if t = 6 then (0, 2, 20, true) else (0, 0, 0, false)
set_option maxRecDepth 10000 in
theorem head_any (w : World) (t : Int) : Calls Tryz.prog 95 #[.int .u16 t] w fun e w' => e = .returned (.tuple #[.int .i64 (shape t).1, .int .i64 (shape t).2.1, .int .i64 (shape t).2.2.1, .bool (shape t).2.2.2]) ∧ w' = w := by
  have hs : shape t = if t = 2 ∨ t = 5 ∨ t = 12 then (0, 1, 0, true) else if t = 15 then (2, 1, 0, true) else if t = 6 then (0, 2, 20, true) else (0, 0, 0, false) := rfl
  obtain ⟨r, hr⟩ : ∃ r, r = shape t := ⟨_, rfl⟩
  rw [← hr] at hs ⊢
  have HS := Lib.hid hs
  clear hs hr
  go_enter Tryz.func95, Tryz.ntmps95
  by_cases h2 : t = 2
  · subst h2
    go_wp2_with fail
    go_returns
    exact ⟨by rw [HS.out]; rfl, rfl⟩
  · by_cases h5 : t = 5
    · subst h5
      go_wp2_with fail
      go_returns
      exact ⟨by rw [HS.out]; rfl, rfl⟩
    · by_cases h12 : t = 12
      · subst h12
        go_wp2_with fail
        go_returns
        exact ⟨by rw [HS.out]; rfl, rfl⟩
      · by_cases h15 : t = 15
        · subst h15
          go_wp2_with fail
          go_returns
          exact ⟨by rw [HS.out]; rfl, rfl⟩
        · by_cases h6 : t = 6
          · subst h6
            go_wp2_with fail
            go_returns
            exact ⟨by rw [HS.out]; rfl, rfl⟩
          · go_wp2_with fail
            go_returns
            exact ⟨by rw [HS.out, if_neg (by omega), if_neg h15, if_neg h6], rfl⟩
end Go.Proofs.YtibbfihnhlgkeaaGreat

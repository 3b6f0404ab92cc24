/- law10: same, prefix. -/
import Derived.Test.YtmglkhnojimnlaaWalLaw
namespace Go.Proofs.Ytmglkhnojimnlaa
open Go.RowKit Go.Maps

/-- are two lists of texts the same? -/
def sameB (xs ys : List ByteArray) : Bool := decide (xs = ys)
theorem sameB_iff {xs ys : List ByteArray} : sameB xs ys = true ↔ xs = ys := by simp [sameB]
theorem toList_eq_self (a : ByteArray) : (a.toList == a.toList) = true := by simp
theorem sameB_refl (xs : List ByteArray) : sameB xs xs = true := by simp [sameB]
set_option maxRecDepth 10000 in
set_option maxHeartbeats 800000 in
theorem same_any (w : World) (a b : Option Addr) (c1 c2 : Nat) (xs ys : List ByteArray) (hx : Texts w a xs) (hy : Texts w b ys) (hlx : xs.length ≤ 1099511627776) (hly : ys.length ≤ 1099511627776) :
    Calls Try.prog 15 #[.slice a xs.length c1, .slice b ys.length c2] w fun e w' => e = .returned (.bool (sameB xs ys)) ∧ ∃ j, w' = w.drewN j := by
  have hlxI : (xs.length : Int) ≤ 1099511627776 := by omega
  have hlyI : (ys.length : Int) ≤ 1099511627776 := by omega
  by_cases hl : xs.length = ys.length
  · have HX := Lib.hid hx
    have HY := Lib.hid hy
    obtain ⟨n, hn⟩ : ∃ n, n = ys.length := ⟨_, rfl⟩
    rw [hl, ← hn]
    rw [← hn] at hlyI
    have HL := Lib.hid (hl.trans hn.symm)
    have HN := Lib.hid hn
    have hself : ((n : Int) == (n : Int)) = true := by simp
    clear hx hy hl hlx hly hlxI hn
    go_enter Try.func15, Try.ntmps15
    go_wp2_with fail
    go_loopw [5] (fun u wr => ∃ (i j : Nat), u = .int .i64 i ∧ i ≤ n ∧ (∀ k (h1 : k < xs.length) (h2 : k < ys.length), k < i → xs[k] = ys[k]) ∧ wr = w.drewN j) (fun u _ => n - (intOf u).toNat)
    case atStart => exact ⟨0, 0, rfl, Nat.zero_le _, fun k _ _ h => absurd h (Nat.not_lt_zero _), rfl⟩
    case round =>
      obtain ⟨i, j, rfl, hi, hk, hwr⟩ := hrel
      have HK := Lib.hid hk
      have HWR := Lib.hid hwr
      clear hk
      by_cases hlt : i < n
      · have h1 : i < xs.length := by rw [HL.out]; exact hlt
        have h2 : i < ys.length := by rw [← HN.out]; exact hlt
        obtain ⟨bx, ox, rfl, hcx⟩ := HX.out i h1
        obtain ⟨by_, oy, rfl, hcy⟩ := HY.out i h2
        have hcx' : wr.cell? ⟨bx, ox + i, none⟩ = some (.string xs[i]) := by rw [hwr]; exact hcx
        have hcy' : wr.cell? ⟨by_, oy + i, none⟩ = some (.string ys[i]) := by rw [hwr]; exact hcy
        have hnI : (i : Int) < (n : Int) := by omega
        have hi0 : (0 : Int) ≤ (i : Int) := by omega
        by_cases he : xs[i] = ys[i]
        · have hs : (xs[i].toList == ys[i].toList) = true := by rw [he]; simp
          have hs2 : (xs[i].toList != ys[i].toList) = false := by rw [he]; simp
          have hnext : ∀ k (h1 : k < xs.length) (h2 : k < ys.length), k < i + 1 → xs[k] = ys[k] := fun k q1 q2 hk => by
            rcases Nat.lt_or_ge k i with h | h
            · exact HK.out k q1 q2 h
            · obtain rfl : k = i := by omega
              exact he
          have HNX := Lib.hid hnext
          obtain ⟨x, hxe⟩ : ∃ x, x = xs[i] := ⟨_, rfl⟩
          obtain ⟨y, hye⟩ : ∃ y, y = ys[i] := ⟨_, rfl⟩
          rw [← hxe] at hcx' hs hs2
          rw [← hye] at hcy' hs hs2
          clear hnext he hcx hcy hxe hye h1 h2 hwr
          go_wp2_with fail
          go_quiet (fail)
          go_wp2_with fail
          go_roundw
          case rel => exact ⟨i + 1, j + nq, by go_num, by omega, HNX.out, by rw [HWR.out, World.drewN_drewN]⟩
          case measure => simp [intOf]; omega
        · have hs : (xs[i].toList == ys[i].toList) = false := toList_ne he
          have hs2 : (xs[i].toList != ys[i].toList) = true := by rw [bne, hs]; rfl
          have hf : sameB xs ys = false := by
            cases hb : sameB xs ys with
            | false => rfl
            | true => have := sameB_iff.1 hb; subst this; exact absurd rfl he
          have HF := Lib.hid hf
          obtain ⟨x, hxe⟩ : ∃ x, x = xs[i] := ⟨_, rfl⟩
          obtain ⟨y, hye⟩ : ∃ y, y = ys[i] := ⟨_, rfl⟩
          rw [← hxe] at hcx' hs hs2
          rw [← hye] at hcy' hs hs2
          clear he hcx hcy hxe hye h1 h2 hf hwr
          go_wp2_with fail
          go_quiet (fail)
          go_wp2_with fail
          go_ret
          exact ⟨ret_bool HF.out.symm, j + nq, by rw [HWR.out, World.drewN_drewN]⟩
      · have hf : sameB xs ys = true := by
          rw [sameB_iff]
          refine List.ext_getElem (HL.out.trans HN.out) (fun k h1 h2 => HK.out k h1 h2 ?_)
          have := HL.out; omega
        have HF := Lib.hid hf
        clear hf hwr
        go_wp2_with fail
        go_ret
        exact ⟨ret_bool HF.out.symm, j, HWR.out⟩
  · have hf : sameB xs ys = false := by
      cases hb : sameB xs ys with
      | false => rfl
      | true => have := sameB_iff.1 hb; subst this; exact absurd rfl hl
    rw [hf]
    have hne : ((xs.length : Int) == (ys.length : Int)) = false := by rw [beq_eq_false_iff_ne]; omega
    have hne2 : (xs.length == ys.length) = false := by rw [beq_eq_false_iff_ne]; omega
    clear hf hx hy hl
    go_enter Try.func15, Try.ntmps15
    go_wp2_with fail
    go_ret
    exact ⟨rfl, 0, rfl⟩
/-- is a list a beginning of another one, with so many of it at least? -/
def prefixB (xs ys : List ByteArray) (n : Int) : Bool := decide (xs.length ≤ ys.length ∧ n ≤ (xs.length : Int) ∧ xs = ys.take xs.length)
set_option maxRecDepth 10000 in
set_option maxHeartbeats 800000 in
theorem prefix_any (w : World) (a b : Option Addr) (c1 c2 : Nat) (xs ys : List ByteArray) (n : Int) (hx : Texts w a xs) (hy : Texts w b ys) (hlx : xs.length ≤ 1099511627776) (hly : ys.length ≤ 1099511627776) (hc : ys.length ≤ c2) (hm : c2 ≤ maxLen) :
    Calls Try.prog 25 #[.slice a xs.length c1, .slice b ys.length c2, .int .i64 n] w fun e w' => e = .returned (.bool (prefixB xs ys n)) ∧ ∃ j, w' = w.drewN j := by
  unfold maxLen at hm
  have hlxI : (xs.length : Int) ≤ 1099511627776 := by omega
  have hlyI : (ys.length : Int) ≤ 1099511627776 := by omega
  by_cases h1 : xs.length ≤ ys.length
  · by_cases h2 : n ≤ (xs.length : Int)
    · have he : prefixB xs ys n = sameB xs (ys.take xs.length) := by unfold prefixB sameB; simp [h1, h2]
      rw [he]
      have htk : (ys.take xs.length).length = xs.length := by rw [List.length_take]; omega
      have hy2 : Texts w b (ys.take xs.length) := fun i hi => by
        obtain ⟨blk, off, e, hcl⟩ := hy i (by rw [htk] at hi; omega)
        exact ⟨blk, off, e, by rw [List.getElem_take]; exact hcl⟩
      have hs := fun c => same_any w a b c1 c xs (ys.take xs.length) hx hy2 hlx (by rw [htk]; exact hlx)
      rw [htk] at hs
      have HS := Lib.hid hs
      have hcI : (ys.length : Int) ≤ (c2 : Int) := by omega
      have h1I : ¬ (ys.length : Int) < (xs.length : Int) := by omega
      have h2I : ¬ (xs.length : Int) < n := by omega
      have h1c : (xs.length : Int) ≤ (c2 : Int) := by omega
      have h1d : xs.length ≤ c2 := by omega
      clear he htk hy2 hs hx hy
      go_enter Try.func25, Try.ntmps25
      go_wp2_with fail
      refine (HS.out _).mono ?_
      rintro e w' ⟨rfl, j, rfl⟩
      go_wp2_with fail
      go_ret
      exact ⟨rfl, j, rfl⟩
    · have he : prefixB xs ys n = false := by unfold prefixB; simp [h2]
      rw [he]
      have h1I : ¬ (ys.length : Int) < (xs.length : Int) := by omega
      have h2I : (xs.length : Int) < n := by omega
      clear he hx hy
      go_enter Try.func25, Try.ntmps25
      go_wp2_with fail
      go_ret
      exact ⟨rfl, 0, rfl⟩
  · have he : prefixB xs ys n = false := by unfold prefixB; simp [h1]
    rw [he]
    have h1I : (ys.length : Int) < (xs.length : Int) := by omega
    clear he hx hy
    go_enter Try.func25, Try.ntmps25
    go_wp2_with fail
    go_ret
    exact ⟨rfl, 0, rfl⟩
end Go.Proofs.Ytmglkhnojimnlaa

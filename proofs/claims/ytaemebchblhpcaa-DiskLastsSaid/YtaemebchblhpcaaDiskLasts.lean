/- law09: DiskLasts. -/
import Derived.Test.YtaemebchblhpcaaDiskTear
import Derived.BigQuiet
namespace Go.Proofs.Ytaemebchblhpcaa
open Go.RowKit Go.Maps Go.WideMaps
open DM (N F FL Sorted)

set_option maxRecDepth 10000 in
set_option maxHeartbeats 1600000 in
theorem lasts_w (ah0 : ByteArray) (a : Option Addr) (len cap : Nat) (a2 : Option Addr) (l2 c2 : Nat) (w : World) (hs0 : ah0.size ≤ maxLen) (hl : len ≤ cap) (hc : cap ≤ maxLen) (g : Nat → ByteArray) (hg : TextsAt w a len g) (ps : List Int) (hp : Picks w (.slice a2 l2 c2) ps) :
    Calls Try.prog 3 #[.string ah0, .slice a len cap, .slice a2 l2 c2] w fun e w' => e = .returned (.bool true) ∧ Touch [] w w' := by
  have hsf : sF.size ≤ maxLen := by decide
  have HSF := Lib.hid hsf
  have HG := Lib.hid hg
  have HP := Lib.hid hp
  unfold maxLen at hc
  clear hsf hg hp
  have hcz := cutS_size ah0 1000
  obtain ⟨ah, hah⟩ : ∃ s, s = cutS ah0 1000 := ⟨_, rfl⟩
  have sh := fun w => short_any w ah0 1000 hs0 (by omega)
  rw [← hah] at sh hcz
  have SH0 := Lib.hid sh
  have HA0 := Lib.hid hcz.1
  have ha1000 := hcz.1
  clear hah sh hcz hs0
  go_enter Try.func3, Try.ntmps3
  go_wp2_with fail
  refine (awake_any _).mono ?_
  rintro e w1 ⟨rfl, T1⟩
  go_wp2_with fail
  refine (SH0.out _).mono ?_
  rintro e wx ⟨rfl, rfl⟩
  go_wp2_with fail
  refine (new_own w _ T1 100000 (by decide)).mono ?_
  rintro e w2 ⟨rfl, o2⟩
  go_wp2_with fail
  refine (append_own o2 (by omega) sF ah HSF.out (by show 0 + ah.size ≤ _; omega) (DM.one_new ah (by omega))).mono ?_
  rintro e w3 ⟨rfl, o3⟩
  clear o2
  go_wp2_with fail
  refine (sync_own o3 (by omega) sF HSF.out (DM.one_sync ah 0 1)).mono ?_
  rintro e w4 ⟨rfl, o4⟩
  clear o3
  go_wp2_with fail
  go_loopw [9, 10] (fun v u wr => ∃ (i n : Nat) (all : ByteArray) (dn : Int), v = .string all ∧ u = .int .i64 i ∧ i ≤ 20 ∧ i ≤ len ∧ n ≤ 2 * i + 4 ∧ all.size ≤ 1000 + 50 * i ∧ ah.size ≤ all.size ∧ all.extract 0 ah.size = ah ∧ Own w wr wx.heap.size n (DM.one all ah.size dn))
    (fun _ u _ => 40 - (intOf u).toNat)
  case atStart => exact ⟨0, 4, ah, _, rfl, rfl, by omega, by omega, by omega, by omega, Nat.le_refl _, DM.extract_all ah, o4⟩
  case round =>
    obtain ⟨i, n, all, dn, rfl, rfl, hi, hil, hn, hsz, hle, hpre, o⟩ := hrel
    have HSZ := Lib.hid hsz
    have HPRE := Lib.hid hpre
    have HLE := Lib.hid hle
    clear hsz hpre hle
    by_cases hlt : i < 20 ∧ i < len
    · obtain ⟨h20, hlt⟩ := hlt
      obtain ⟨blk, off, rfl, q1, q2⟩ := HG.out.touch o.T i hlt
      have hcz := cutS_size (g i) 50
      obtain ⟨s, hs⟩ : ∃ s, s = cutS (g i) 50 := ⟨_, rfl⟩
      have sh := fun w => short_any w (g i) 50 q2 (by omega)
      rw [← hs] at sh hcz
      clear hs
      have SH := Lib.hid sh
      have HS50 := Lib.hid hcz.1
      have hus : DM.used (DM.one all ah.size dn).fl + s.size ≤ 1099511627776 := by show all.size + 0 + s.size ≤ _; have := HSZ.out; have := hcz.1; omega
      have HUS := Lib.hid hus
      have ca := append_own o (by omega) sF s HSF.out HUS.out (DM.one_more all s ah.size dn (by have := HSZ.out; have := hcz.1; omega))
      have CA := Lib.hid ca
      have hap : (all ++ s).size = all.size + s.size := ByteArray.size_append
      have HAP := Lib.hid hap
      clear sh hcz q2 hus ca hap
      go_wp2_with fail
      refine (SH.out _).mono ?_
      rintro e w5 ⟨rfl, rfl⟩
      go_wp2_with fail
      refine CA.out.mono ?_
      rintro e w5 ⟨rfl, o5⟩
      have z1 : all.size ≤ 2000 := by have := HSZ.out; omega
      have z2 := HS50.out
      go_wp2_with fail
      go_roundw
      case rel => exact ⟨i + 1, n + 2, all ++ s, _, rfl, by go_num, by omega, by omega, by omega, by have := HSZ.out; have := HS50.out; have := HAP.out; omega, by have := HLE.out; have := HAP.out; omega, (DM.extract_pre all s ah.size HLE.out).trans HPRE.out, o5⟩
      case measure => simp [intOf]; omega
    · have hne : ¬ (i < 20 ∧ i < len) := hlt
      -- what is there behind the crash
      have hok := DM.tear_ok (all, ah.size) ps HLE.out
      have hmo := DM.more_le (all, ah.size) (DM.pick ps).1
      have hk1 := DM.tear_keeps (all, ah.size) ps ah.size HLE.out (.inl (Nat.le_refl _))
      have hk2 := fun m hm => DM.tear_keeps (all, ah.size) ps m HLE.out (.inr hm)
      have hcr := DM.one_crash all ah.size dn ps HLE.out
      obtain ⟨t, ht⟩ : ∃ t, t = (DM.tear (all, ah.size) ps).1.1 := ⟨_, rfl⟩
      simp only at hk1 hk2 hok hmo
      rw [← ht] at hok hk1 hcr
      rw [← ht] at hk2
      rw [HPRE.out] at hk1
      have hag := DM.one_again t dn ps
      have ht1 : ah.size ≤ t.size := by omega
      have ht2 : t.size ≤ all.size := by have := HLE.out; omega
      have HK1 := Lib.hid hk1
      have HK2 := Lib.hid hk2
      have HCR := Lib.hid hcr
      have HAG := Lib.hid hag
      have HT1 := Lib.hid ht1
      have HT2 := Lib.hid ht2
      clear hk1 hk2 hcr hag ht1 ht2 hok hmo ht
      by_cases hlt2 : i < len
      all_goals
        go_wp2_with fail
        refine (read_own o sF HSF.out (DM.one_read all ah.size dn)).mono ?_
        rintro e w5 ⟨rfl, o5, _⟩
        clear o
        go_wp2_with fail
        refine (crash_in o5 (by omega) a2 l2 c2 ps HP.out HCR.out).mono ?_
        rintro e w6 ⟨rfl, o6⟩
        clear o5
        go_wp2_with fail
        refine (read_own o6 sF HSF.out (DM.one_read t t.size dn)).mono ?_
        rintro e w7 ⟨rfl, o7, _⟩
        clear o6
        have ht1 := HT1.out
        have ht2 := HT2.out
        have hsz := HSZ.out
        have hk1 := HK1.out
        have ht5 : t.size ≤ 5000 := by omega
        by_cases hgt : (ah.size : Int) < (t.size : Int) - 1
        all_goals
          have hgd : decide ((ah.size : Int) < (t.size : Int) - 1) = _ := (by first | exact decide_eq_true hgt | exact decide_eq_false hgt)
          have e2 : t.extract 0 ((t.size : Int) - 1).toNat = all.extract 0 ((t.size : Int) - 1).toNat := by
            by_cases h0 : t.size = 0
            · rw [h0]; apply ByteArray.ext; simp
            · exact HK2.out _ (by omega)
          have e3 : t.extract 0 (t.size - 1) = all.extract 0 (t.size - 1) := by
            have e4 : t.size - 1 = ((t.size : Int) - 1).toNat := by omega
            rw [e4]; exact e2
          go_wp2_with fail
          go_quiet (fail)
          go_wp2_with fail
          refine (crash_in (o7.touch (Touch.drewN [] _ _)) (by omega) a2 l2 c2 ps HP.out HAG.out).mono ?_
          rintro e w8 ⟨rfl, o8⟩
          clear o7
          go_wp2_with fail
          refine (read_own o8 sF HSF.out (DM.one_read t t.size dn)).mono ?_
          rintro e w9 ⟨rfl, o9, _⟩
          clear o8
          go_wp2_with fail
          go_ret
          exact ⟨rfl, o9.T⟩

theorem lasts_walk (s : ByteArray) (a : Option Addr) (l c : Nat) (a2 : Option Addr) (l2 c2 : Nat) (w : World) (hs : s.size ≤ maxLen) (h : Rd w 22 [.slice a l c]) (h2 : Rd w 23 [.slice a2 l2 c2]) :
    Calls Try.prog 3 #[.string s, .slice a l c, .slice a2 l2 c2] w fun e w' => e = .returned (.bool true) ∧ Touch [] w w' := by
  obtain ⟨hl, hc, g, hg⟩ := h.texts
  obtain ⟨ps, hp⟩ := h2.picks
  exact lasts_w s a l c a2 l2 c2 w hs hl hc g hg ps hp
end Go.Proofs.Ytaemebchblhpcaa

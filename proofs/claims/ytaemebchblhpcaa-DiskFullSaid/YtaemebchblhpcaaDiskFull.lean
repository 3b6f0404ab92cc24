/- law09: DiskFull. -/
import Derived.Test.YtaemebchblhpcaaDiskArms
namespace Go.Proofs.Ytaemebchblhpcaa.DM

structure Full (k u : Nat) (d : D) : Prop where
  sorted : Sorted d.fl
  room : d.room = (k : Int)
  us : used d.fl = u
  off : d.off = false
  left : d.left = 0
theorem Full.start (k : Nat) : Full k 0 (new k) := ⟨Sorted.nil, by simp only [new]; omega, rfl, rfl, rfl⟩
theorem Full.more {k u : Nat} {d : D} (h : Full k u d) (s : ByteArray) (hs : u + s.size ≤ k) : (append d [102] s).1 = 0 ∧ Full k (u + s.size) (append d [102] s).2 := by
  have h1 := h.room
  have h2 := h.us
  have h3 := h.left
  rw [append_done d _ _ h.off rfl (by omega) (by omega)]
  exact ⟨rfl, sorted_put _ _ _ h.sorted, h1, by simp only [used_app _ _ _ _ h.sorted, h2], h.off, by simp only [h3]; rfl⟩
theorem Full.no {k u : Nat} {d : D} (h : Full k u d) (s : ByteArray) (hs : k < u + s.size) : append d [102] s = (15, d) := by
  have h1 := h.room
  have h2 := h.us
  exact append_full d _ _ h.off rfl (by omega)
theorem Full.limit {k u : Nat} {d : D} (h : Full k u d) : Full 0 u (limit d 0) := ⟨h.sorted, rfl, h.us, h.off, h.left⟩
end Go.Proofs.Ytaemebchblhpcaa.DM
namespace Go.Proofs.Ytaemebchblhpcaa
open Go.RowKit Go.Maps Go.WideMaps
open DM (N F FL Sorted)

theorem eq_empty_of (s : ByteArray) (h : s.size = 0) : s = ⟨#[]⟩ := by
  obtain ⟨l⟩ := s
  have : l.size = 0 := h
  rw [Array.eq_empty_of_size_eq_zero this]
set_option maxRecDepth 10000 in
set_option maxHeartbeats 1600000 in
theorem full_w (n0 : Int) (a : Option Addr) (len cap : Nat) (w : World) (hw0 : (Lit.int .i64 n0).wf = true) (hl : len ≤ cap) (hc : cap ≤ maxLen) (g : Nat → ByteArray) (hg : TextsAt w a len g) :
    Calls Try.prog 4 #[.int .i64 n0, .slice a len cap] w fun e w' => e = .returned (.bool true) ∧ Touch [] w w' := by
  have hsf : sF.size ≤ maxLen := by decide
  have HSF := Lib.hid hsf
  have HG := Lib.hid hg
  unfold maxLen at hc
  clear hsf hg
  have hr : -300 ≤ n0.tmod 301 ∧ n0.tmod 301 ≤ 300 := by
    have := Int.tmod_lt_of_pos n0 (show (0:Int) < 301 by decide)
    have h2 := Int.lt_tmod_of_pos n0 (show (0:Int) < 301 by decide)
    omega
  obtain ⟨r, hre⟩ : ∃ r, r = n0.tmod 301 := ⟨_, rfl⟩
  rw [← hre] at hr
  obtain ⟨hr0, hr1⟩ := hr
  go_enter Try.func4, Try.ntmps4
  go_wp2_with fail
  refine (awake_any _).mono ?_
  rintro e w1 ⟨rfl, T1⟩
  go_upto_if 18 with (fail)
  go_cut [6] (fun s6 wx => (∃ k : Nat, s6 = .int .i64 k ∧ k ≤ 300) ∧ wx = w1)
  case first =>
    by_cases hneg : r < 0
    · go_wp2
      go_meet
      exact ⟨⟨(-r).toNat, by go_num, by omega⟩, rfl⟩
    · go_wp2
      go_meet
      exact ⟨⟨r.toNat, by go_num, by omega⟩, rfl⟩
  case rest =>
    obtain ⟨⟨k, rfl, hk⟩, hw⟩ := hcut
    obtain rfl := hw.symm
    clear hre hr0 hr1
    go_wp2_with fail
    refine (new_own w _ T1 k (wf64 (by omega) (by omega))).mono ?_
    rintro e w2 ⟨rfl, o2⟩
    have A2 := DM.Full.start k
    go_wp2_with fail
    go_loopw [8, 9] (fun v u wr => ∃ (i n : Nat) (d : DM.D) (had : ByteArray), v = .string had ∧ u = .int .i64 i ∧ i ≤ 30 ∧ i ≤ len ∧ n ≤ 2 * i ∧ had.size ≤ k ∧ Own w wr w1.heap.size n d ∧ DM.Full k had.size d)
      (fun _ u _ => 40 - (intOf u).toNat)
    case atStart => exact ⟨0, 0, _, ⟨#[]⟩, rfl, rfl, by omega, by omega, by omega, Nat.zero_le _, o2, A2⟩
    case round =>
      obtain ⟨i, n, d, had, rfl, rfl, hi, hil, hn, hhk, o, A⟩ := hrel
      have HHK := Lib.hid hhk
      clear hhk
      by_cases hlt : i < 30 ∧ i < len
      · obtain ⟨h30, hlt⟩ := hlt
        obtain ⟨blk, off, rfl, q1, q2⟩ := HG.out.touch o.T i hlt
        have hcz := cutS_size (g i) 60
        obtain ⟨s, hs⟩ : ∃ s, s = cutS (g i) 60 := ⟨_, rfl⟩
        have sh := fun w => short_any w (g i) 60 q2 (by omega)
        rw [← hs] at sh hcz
        clear hs
        have SH := Lib.hid sh
        have hus : DM.used d.fl + s.size ≤ 1099511627776 := by have := A.us; have := HHK.out; omega
        have HUS := Lib.hid hus
        have HS60 := hcz.1
        have HAD := Lib.hid (show had.size ≤ 300 from Nat.le_trans HHK.out hk)
        clear sh hcz q2 hus
        obtain ⟨r1, hr1⟩ : ∃ r1, r1 = DM.append d [102] s := ⟨_, rfl⟩
        have ca := append_own o (by omega) sF s HSF.out HUS.out hr1.symm
        have HR1 := Lib.hid hr1
        clear hr1
        by_cases hfit : had.size + s.size ≤ k
        · have A' := A.more s hfit
          rw [← HR1.out] at A'
          have AP := Lib.hid A'
          obtain ⟨A0, A1⟩ := A'
          rw [A0] at ca
          have CA := Lib.hid ca
          have hap : (had ++ s).size = had.size + s.size := ByteArray.size_append
          have HAP := Lib.hid hap
          have hfi : (had.size : Int) + (s.size : Int) ≤ (k : Int) := by omega
          have hh300 := HAD.out
          clear ca A0 A1 hap hfit
          go_wp2_with fail
          refine (SH.out _).mono ?_
          rintro e w4 ⟨rfl, rfl⟩
          go_wp2_with fail
          refine CA.out.mono ?_
          rintro e w4 ⟨rfl, o4⟩
          go_wp2_with fail
          refine (used_own o4 (by omega)).mono ?_
          rw [AP.out.2.us, ← HAP.out]
          rintro e w5 ⟨rfl, o5, _⟩
          go_wp2_with fail
          go_roundw
          case rel => exact ⟨i + 1, n + 2, _, had ++ s, rfl, by go_num, by omega, by omega, by omega, by rw [HAP.out]; omega, o5, by rw [HAP.out]; exact AP.out.2⟩
          case measure => simp [intOf]; omega
        · have A' := A.no s (by omega)
          rw [← HR1.out] at A'
          subst A'
          have CA := Lib.hid ca
          have hfi : ¬ (had.size : Int) + (s.size : Int) ≤ (k : Int) := by omega
          have hh300 := HAD.out
          clear ca hfit
          go_wp2_with fail
          refine (SH.out _).mono ?_
          rintro e w4 ⟨rfl, rfl⟩
          go_wp2_with fail
          refine CA.out.mono ?_
          rintro e w4 ⟨rfl, o4⟩
          go_wp2_with fail
          refine (used_own o4 (by omega)).mono ?_
          rw [A.us]
          rintro e w5 ⟨rfl, o5, _⟩
          go_wp2_with fail
          go_roundw
          case rel => exact ⟨i + 1, n + 2, _, had, rfl, by go_num, by omega, by omega, by omega, HHK.out, o5, A⟩
          case measure => simp [intOf]; omega
      · have AL := A.limit
        have hu0 : DM.used (DM.limit d 0).fl + 1 ≤ 1099511627776 := by have := AL.us; have := HHK.out; omega
        have HU0 := Lib.hid hu0
        clear hu0
        have e30 : ¬ (i < 30 ∧ i < len) := hlt
        by_cases hz : had.size = 0
        · have hemp := eq_empty_of had hz
          subst hemp
          clear hz HHK
          have F1 := AL.more ⟨#[]⟩ (Nat.le_refl _)
          have F2 := F1.2.no ⟨#[120]⟩ (by decide)
          obtain ⟨d2, hd2⟩ : ∃ d2, d2 = (DM.append (DM.limit d 0) [102] ⟨#[]⟩).2 := ⟨_, rfl⟩
          obtain ⟨F0, F1⟩ := F1
          rw [← hd2] at F1 F2
          have HD2 : DM.append (DM.limit d 0) [102] ⟨#[]⟩ = (0, d2) := Prod.ext F0 hd2.symm
          have G0 := Lib.hid HD2
          have G1 := Lib.hid F1
          have G2 := Lib.hid F2
          clear hd2 F0 F1 F2 HD2
          by_cases hlt2 : i < len
          all_goals
            go_wp2_with fail
            refine (limit_own o 0 (by decide)).mono ?_
            rintro e w3 ⟨rfl, o3⟩
            clear o
            go_wp2_with fail
            refine (append_own o3 (by omega) sF ⟨#[]⟩ HSF.out (Nat.le_trans (Nat.le_succ _) HU0.out) G0.out).mono ?_
            rintro e w4 ⟨rfl, o4⟩
            clear o3
            go_wp2_with fail
            refine (append_own o4 (by omega) sF ⟨#[120]⟩ HSF.out (by rw [G1.out.us]; decide) G2.out).mono ?_
            rintro e w5 ⟨rfl, o5⟩
            clear o4
            go_wp2_with fail
            refine (used_own o5 (by omega)).mono ?_
            rw [G1.out.us]
            rintro e w6 ⟨rfl, o6, _⟩
            go_wp2_with fail
            go_ret
            exact ⟨rfl, o6.T⟩
        · have hne := isEmpty_of_pos had hz
          have F1 := AL.no ⟨#[]⟩ (by show 0 < had.size + 0; omega)
          have F2 := AL.no ⟨#[120]⟩ (by show 0 < had.size + 1; omega)
          have G1 := Lib.hid F1
          have G2 := Lib.hid F2
          have HH := HHK.out
          clear F1 F2
          by_cases hlt2 : i < len
          all_goals
            go_wp2_with fail
            refine (limit_own o 0 (by decide)).mono ?_
            rintro e w3 ⟨rfl, o3⟩
            clear o
            go_wp2_with fail
            refine (append_own o3 (by omega) sF ⟨#[]⟩ HSF.out (Nat.le_trans (Nat.le_succ _) HU0.out) G1.out).mono ?_
            rintro e w4 ⟨rfl, o4⟩
            clear o3
            go_wp2_with fail
            refine (append_own o4 (by omega) sF ⟨#[120]⟩ HSF.out HU0.out G2.out).mono ?_
            rintro e w5 ⟨rfl, o5⟩
            clear o4
            go_wp2_with fail
            refine (used_own o5 (by omega)).mono ?_
            rw [AL.us]
            rintro e w6 ⟨rfl, o6, _⟩
            go_wp2_with fail
            go_ret
            exact ⟨rfl, o6.T⟩

theorem full_walk (n0 : Int) (a : Option Addr) (l c : Nat) (w : World) (hw0 : (Lit.int .i64 n0).wf = true) (h : Rd w 22 [.slice a l c]) :
    Calls Try.prog 4 #[.int .i64 n0, .slice a l c] w fun e w' => e = .returned (.bool true) ∧ Touch [] w w' := by
  obtain ⟨hl, hc, g, hg⟩ := h.texts
  exact full_w n0 a l c w hw0 hl hc g hg
end Go.Proofs.Ytaemebchblhpcaa

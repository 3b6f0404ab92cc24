/- law09: DiskArms. -/
import Derived.Test.YtaemebchblhpcaaDiskOwn
import Derived.Deep.DeepCutAuto
namespace Go.Proofs.Ytaemebchblhpcaa.DM

theorem getF_size (l : FL) (k : N) : (getF l k).1.size = sz (look l k) := by
  unfold getF
  cases look l k with
  | none => rfl
  | some f => rfl
theorem used_app (l : FL) (k : N) (s : ByteArray) (c : Nat) (h : Sorted l) : used (put l k ((getF l k).1 ++ s, c)) = used l + s.size := by
  have h1 := used_put l k ((getF l k).1 ++ s, c) h
  have h2 := getF_size l k
  simp only [ByteArray.size_append] at h1
  omega
theorem may1_in (d : D) (k : N) (ho : d.off = false) (hk : bad k = false) : may1 d false k = 0 := by
  unfold may1
  rw [if_neg (by simp [ho]), if_neg (by simp [hk])]
  simp
theorem may1_out (d : D) (t : Bool) (k : N) (ho : d.off = true) : may1 d t k = 14 := by
  unfold may1
  rw [if_pos ho]
theorem append_off (d : D) (k : N) (s : ByteArray) (ho : d.off = true) : append d k s = (14, d) := by
  unfold append thn
  simp only [may1_out d false k ho]
  simp
theorem append_full (d : D) (k : N) (s : ByteArray) (ho : d.off = false) (hk : bad k = false) (hr : d.room - used d.fl < s.size) : append d k s = (15, d) := by
  unfold append
  simp only [may1_in d k ho hk]
  rw [if_pos ⟨trivial, hr⟩]
theorem append_power (d : D) (k : N) (s : ByteArray) (ho : d.off = false) (hk : bad k = false) (hr : s.size ≤ d.room - used d.fl) (hl : d.left = 1) : append d k s = (14, { d with off := true }) := by
  unfold append thn
  simp only [may1_in d k ho hk]
  have hs : step d = (14, { d with off := true }) := by unfold step; rw [if_pos hl]
  rw [if_neg (by omega), if_pos trivial, hs]
  rfl
theorem append_done (d : D) (k : N) (s : ByteArray) (ho : d.off = false) (hk : bad k = false) (hr : s.size ≤ d.room - used d.fl) (hl : d.left ≠ 1) :
    append d k s = (0, ⟨d.room, put d.fl k ((getF d.fl k).1 ++ s, (getF d.fl k).2), d.off, max (d.left - 1) 0, d.done + 1⟩) := by
  unfold append thn
  simp only [may1_in d k ho hk]
  have hs : step d = (0, { d with left := max (d.left - 1) 0, done := d.done + 1 }) := by unfold step; rw [if_neg hl]
  rw [if_neg (by omega), if_pos trivial, hs]
  rfl

structure Arms (k i : Nat) (d : D) : Prop where
  sorted : Sorted d.fl
  room : d.room = 1000
  us : used d.fl = min i k
  done : d.done = (min i k : Nat)
  off : d.off = decide (k < i)
  left : d.left = (k + 1 - min i k : Nat)
theorem Arms.start (k : Nat) (hk : k ≤ 30) : Arms k 0 (arm (new 1000) k) :=
  ⟨Sorted.nil, rfl, by simp [arm, new, DM.used], by simp [arm, new], by simp [arm, new], by simp only [arm, new]; omega⟩
theorem Arms.next {k i : Nat} {d : D} (h : Arms k i d) (hk : k ≤ 30) :
    (append d [102] ⟨#[120]⟩).1 = (if i < k then 0 else 14) ∧ Arms k (i + 1) (append d [102] ⟨#[120]⟩).2 := by
  have hb : bad [102] = false := rfl
  have hx : (⟨#[120]⟩ : ByteArray).size = 1 := rfl
  have h1 := h.room
  have h2 := h.us
  have h3 := h.left
  by_cases hi : k < i
  · rw [append_off d _ _ (by rw [h.off]; simpa using hi), if_neg (by omega)]
    refine ⟨rfl, h.sorted, h1, by rw [h2]; omega, by rw [h.done]; congr 1; omega, by rw [h.off]; simp; omega, by rw [h3]; congr 1; omega⟩
  have ho : d.off = false := by rw [h.off]; simpa using Nat.not_lt.1 hi
  by_cases he : i = k
  · rw [append_power d _ _ ho hb (by rw [hx]; omega) (by omega), if_neg (by omega)]
    refine ⟨rfl, h.sorted, h1, by simp only [h2]; omega, by simp only [h.done]; congr 1; omega, by simp; omega, by simp only [h3]; congr 1; omega⟩
  · rw [append_done d _ _ ho hb (by rw [hx]; omega) (by omega), if_pos (by omega)]
    refine ⟨rfl, sorted_put _ _ _ h.sorted, h1, by simp only [used_app _ _ _ _ h.sorted, h2, hx]; omega, by simp only [h.done]; omega, by rw [ho]; simp; omega, by simp only [h3]; omega⟩
theorem read_off (d : D) (k : N) (ho : d.off = true) : read d k = (⟨#[]⟩, 14) := by
  unfold read
  rw [may1_out d true k ho, if_neg (by decide)]
theorem sync_off (d : D) (k : N) (ho : d.off = true) : sync d k = (14, d) := by
  unfold sync thn
  rw [may1_out d true k ho, if_neg (by decide)]
theorem Arms.last {k : Nat} {d : D} (h : Arms k 40 d) (hk : k ≤ 30) (ps : List Int) (he : ∀ p ∈ d.fl, p.2.2 ≤ p.2.1.size) :
    (crash d ps).off = false ∧ used (crash d ps).fl ≤ k ∧ (append (crash d ps) [103] ⟨#[121]⟩).1 = 0 := by
  have h1 : used (crashL d.fl ps) ≤ used d.fl := used_crash d.fl ps he
  have h2 := h.us
  refine ⟨rfl, by simp only [crash]; omega, ?_⟩
  rw [append_done (crash d ps) [103] ⟨#[121]⟩ rfl rfl _ (show (0 : Int) ≠ 1 by decide)]
  have hx : (⟨#[121]⟩ : ByteArray).size = 1 := rfl
  have h3 : (crash d ps).room = 1000 := h.room
  have h4 : (crash d ps).fl = crashL d.fl ps := rfl
  rw [hx, h3, h4]
  omega
end Go.Proofs.Ytaemebchblhpcaa.DM
namespace Go.Proofs.Ytaemebchblhpcaa
open Go.RowKit Go.Maps Go.WideMaps
open DM (N F FL Sorted)

abbrev sF : ByteArray := ⟨#[102]⟩
abbrev sG : ByteArray := ⟨#[103]⟩
set_option maxRecDepth 10000 in
set_option maxHeartbeats 800000 in
theorem arms_w (n0 : Int) (a : Option Addr) (l c : Nat) (w : World) (hw0 : (Lit.int .i64 n0).wf = true) (ps : List Int) (hp : Picks w (.slice a l c) ps) :
    Calls Try.prog 5 #[.int .i64 n0, .slice a l c] w fun e w' => e = .returned (.bool true) ∧ Touch [] w w' := by
  have hsf : sF.size ≤ maxLen := by decide
  have hsg : sG.size ≤ maxLen := by decide
  have HSF := Lib.hid hsf
  have HSG := Lib.hid hsg
  have HP := Lib.hid hp
  clear hsf hsg hp
  have hr : -30 ≤ n0.tmod 31 ∧ n0.tmod 31 ≤ 30 := by
    have := Int.tmod_lt_of_pos n0 (show (0:Int) < 31 by decide)
    have h2 := Int.lt_tmod_of_pos n0 (show (0:Int) < 31 by decide)
    omega
  obtain ⟨r, hre⟩ : ∃ r, r = n0.tmod 31 := ⟨_, rfl⟩
  rw [← hre] at hr
  obtain ⟨hr0, hr1⟩ := hr
  go_enter Try.func5, Try.ntmps5
  go_wp2_with fail
  refine (awake_any _).mono ?_
  rintro e w1 ⟨rfl, T1⟩
  go_wp2_with fail
  refine (new_own w _ T1 1000 (by decide)).mono ?_
  rintro e w2 ⟨rfl, o2⟩
  go_upto_if 19 with (fail)
  go_cut [7] (fun s7 wx => (∃ k : Nat, s7 = .int .i64 k ∧ k ≤ 30) ∧ wx = w2)
  case first =>
    by_cases hneg : r < 0
    · go_wp2
      go_meet
      exact ⟨⟨(-r).toNat, by go_num, by omega⟩, rfl⟩
    · go_wp2
      go_meet
      exact ⟨⟨r.toNat, by go_num, by omega⟩, rfl⟩
  case rest =>
    obtain ⟨⟨k, rfl, hk⟩, hw⟩ := hcut
    obtain rfl := hw.symm
    clear hre
    go_wp2_with fail
    refine (arm_own o2 k).mono ?_
    rintro e w3 ⟨rfl, o3⟩
    have A3 := DM.Arms.start k hk
    clear o2 hr0 hr1
    go_wp2_with fail
    go_loopw [8] (fun u wr => ∃ (i n : Nat) (d : DM.D), u = .int .i64 i ∧ i ≤ 40 ∧ n ≤ 2 * i ∧ Own w wr w1.heap.size n d ∧ DM.Arms k i d)
      (fun u _ => 40 - (intOf u).toNat)
    case atStart => exact ⟨0, 0, _, rfl, by omega, by omega, o3, A3⟩
    case round =>
      obtain ⟨i, n, d, rfl, hi, hn, o, A⟩ := hrel
      by_cases hlt : i < 40
      · have A' := A.next hk
        obtain ⟨r1, hr1⟩ : ∃ r1, r1 = DM.append d [102] ⟨#[120]⟩ := ⟨_, rfl⟩
        rw [← hr1] at A'
        have hus : DM.used d.fl + 1 ≤ 1099511627776 := by have := A.us; omega
        have ca := append_own o (by omega) sF ⟨#[120]⟩ HSF.out hus hr1.symm
        have CA := Lib.hid ca
        have AP := Lib.hid A'
        clear ca A' hus hr1 A
        go_wp2_with fail
        refine CA.out.mono ?_
        rintro e w4 ⟨rfl, o4⟩
        have Q := AP.out.2
        by_cases hik : i < k
        · have e0 := AP.out.1
          rw [if_pos hik] at e0
          rw [e0]
          clear e0
          go_wp2_with fail
          go_roundw
          case rel => exact ⟨i + 1, n + 2, _, by go_num, by omega, by omega, o4, Q⟩
          case measure => simp [intOf]; omega
        · have e0 := AP.out.1
          rw [if_neg hik] at e0
          rw [e0]
          clear e0
          go_wp2_with fail
          go_roundw
          case rel => exact ⟨i + 1, n + 2, _, by go_num, by omega, by omega, o4, Q⟩
          case measure => simp [intOf]; omega
      · obtain rfl : i = 40 := by omega
        have hoff : d.off = true := by rw [A.off]; simp; omega
        have hdone : d.done = (k : Int) := by rw [A.done]; congr 1; omega
        have hl := A.last hk ps (fun p hp => (o.fit.each p hp).1)
        obtain ⟨hl1, hl2, hl3⟩ := hl
        obtain ⟨d9, hd9⟩ : ∃ d9, DM.crash d ps = d9 := ⟨_, rfl⟩
        rw [hd9] at hl1 hl2 hl3
        have HD := Lib.hid hd9
        have HOFF := Lib.hid hoff
        have HDONE := Lib.hid hdone
        have H1 := Lib.hid hl1
        have H3 := Lib.hid hl3
        have H2 := Lib.hid hl2
        clear hd9 hoff hdone hl1 hl2 hl3 A
        go_wp2_with fail
        refine (read_own o sF HSF.out (DM.read_off d _ HOFF.out)).mono ?_
        rintro e w5 ⟨rfl, o5, _⟩
        clear o
        go_wp2_with fail
        refine (on_own o5).mono ?_
        rw [HOFF.out]
        rintro e w6 ⟨rfl, rfl⟩
        go_wp2_with fail
        refine (steps_own o5).mono ?_
        rw [HDONE.out]
        rintro e w6 ⟨rfl, rfl⟩
        go_wp2_with fail
        refine (sync_own o5 (by omega) sF HSF.out (DM.sync_off d _ HOFF.out)).mono ?_
        rintro e w6 ⟨rfl, o6⟩
        clear o5
        go_wp2_with fail
        refine (crash_in o6 (by omega) a l c ps HP.out HD.out).mono ?_
        rintro e w7 ⟨rfl, o7⟩
        clear o6
        go_wp2_with fail
        refine (on_own o7).mono ?_
        rw [H1.out]
        rintro e w8 ⟨rfl, rfl⟩
        go_wp2_with fail
        refine (used_own o7 (by omega)).mono ?_
        rintro e w8 ⟨rfl, o8, _⟩
        obtain ⟨u, hu⟩ : ∃ u, u = DM.used d9.fl := ⟨_, rfl⟩
        have hu2 : DM.used d9.fl + 1 ≤ 1099511627776 := by have := H2.out; omega
        have hu3 := H2.out
        rw [← hu] at hu3 ⊢
        have HU2 := Lib.hid hu2
        clear hu hu2 o7
        go_wp2_with fail
        refine (append_own o8 (by omega) sG ⟨#[121]⟩ HSG.out HU2.out rfl).mono ?_
        rw [show (DM.append d9 (nm sG) ⟨#[121]⟩).1 = 0 from H3.out]
        rintro e w9 ⟨rfl, o9⟩
        go_wp2_with fail
        go_ret
        exact ⟨rfl, o9.T⟩

theorem arms_walk (n0 : Int) (a : Option Addr) (l c : Nat) (w : World) (hw0 : (Lit.int .i64 n0).wf = true) (h : Rd w 23 [.slice a l c]) :
    Calls Try.prog 5 #[.int .i64 n0, .slice a l c] w fun e w' => e = .returned (.bool true) ∧ Touch [] w w' := by
  obtain ⟨ps, hp⟩ := h.picks
  exact arms_w n0 a l c w hw0 ps hp
end Go.Proofs.Ytaemebchblhpcaa

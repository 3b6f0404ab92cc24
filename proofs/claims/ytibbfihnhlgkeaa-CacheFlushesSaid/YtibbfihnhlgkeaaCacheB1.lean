/- CacheStays: what is used between stays. -/
import Derived.Test.YtibbfihnhlgkeaaCacheA4
import Derived.Test.YtibbfihnhlgkeaaArgs
namespace Go.Proofs.Ytibbfihnhlgkeaa
open Go.RowKit Go.Maps Go.WideMaps
open NM (Bs bs ofBs)
open CM (It C)

/-- an entry given away beside a Boolean is laid into a new block -/
theorem OC.laid {w0 w : World} {B : Nat} {c : C} (h : OC w0 w B c) (cs : Array Value) : OC w0 ((w.alloc (.cells zeroE 25)).setRow w.heap.size cs) B c :=
  h.quiet (((Touch.refl [] w).alloc _).row _ _ (.inr (Nat.le_refl _)))
theorem laid_t (w : World) (cs : Array Value) : Touch [] w ((w.alloc (.cells zeroE 25)).setRow w.heap.size cs) := ((Touch.refl [] w).alloc _).row _ _ (.inr (Nat.le_refl _))
/-- the key of the first one -/
def keyA : ByteArray := ofBs (CM.keyB 0 (bs ⟨#[1, 97, 0]⟩) ((1 : Nat) : Int) ((1 : Nat) : Int))
theorem keyA_eq (til : Int) : CM.key (entE 97 til) = keyA := by kernel_rfl
set_option maxRecDepth 100000 in
theorem keyA_ne : ∀ i : Fin 100, CM.key (entE (130 + i.val) 0) ≠ keyA := by decide +kernel
structure StaysI (m til : Int) (c : C) : Prop where
  inv : CM.Inv c
  most : c.most = m
  uses : 0 ≤ c.uses
  all : ∀ x ∈ c.h, x.e.rank = 3 ∧ x.e.til = til
  has : ∃ x ∈ c.h, x.key = keyA ∧ ∀ z ∈ c.h, z.used ≤ x.used
theorem StaysI.start (m til : Int) (hm : 1 ≤ m) (g : Nat) (rv : Value) (u : Int) (ht : 0 ≤ til ∧ til ≤ 1125899906842624) : StaysI m til (CM.put ⟨m, 0, []⟩ ⟨g, entE 97 til, rv, CM.key (entE 97 til), u⟩ 0) := by
  have h := CM.put_nil ⟨m, 0, []⟩ rfl ⟨g, entE 97 til, rv, CM.key (entE 97 til), u⟩ 0
  have hi : CM.Inv ⟨m, 0, []⟩ := ⟨by simp, by simp, by simp, by simp, by show ((([] : List It).length : Nat) : Int) ≤ CM.room _; unfold CM.room; simp; omega, by simp⟩
  refine ⟨hi.put _ 0 (by simp) (Int.le_refl _) rfl (ent_check 97 (by omega) til 3 0 ht (by omega)), rfl, by show (0 : Int) ≤ 0 + 1; omega, ?_, ?_⟩
  · intro x hx
    rw [h] at hx
    simp only [List.mem_cons, List.not_mem_nil, or_false] at hx
    subst hx
    exact ⟨rfl, rfl⟩
  · refine ⟨_, by rw [h]; exact List.mem_cons_self, keyA_eq til, fun z hz => ?_⟩
    rw [h] at hz
    simp only [List.mem_cons, List.not_mem_nil, or_false] at hz
    subst hz
    exact Int.le_refl _
theorem StaysI.may {m til : Int} {c : C} (I : StaysI m til c) (ht : 0 ≤ til ∧ til ≤ 1125899906842624) (b : Nat) (hb : b < 256) : CM.mayPut c (entE b til) 0 = true := by
  unfold CM.mayPut
  rw [CM.refused_rank c.h 3 (fun x hx => (I.all x hx).1) (entE b til) rfl 0, decide_eq_true ⟨ent_check b hb til 3 0 ht (by omega), by show (0 : Int) ≤ til; omega⟩]
  rfl
theorem StaysI.put {m til : Int} {c : C} (I : StaysI m til c) (hm : 2 ≤ m) (ht : 0 ≤ til ∧ til ≤ 1125899906842624) (i : Nat) (hi : i < 100) (g : Nat) (rv : Value) (u : Int) (hg : ∀ y ∈ c.h, y.g ≠ g) :
    ∃ x ∈ (CM.put c ⟨g, entE (130 + i) til, rv, CM.key (entE (130 + i) til), u⟩ 0).h, CM.tell (CM.put c ⟨g, entE (130 + i) til, rv, CM.key (entE (130 + i) til), u⟩ 0) keyA til = some x ∧
      StaysI m til (CM.used (CM.put c ⟨g, entE (130 + i) til, rv, CM.key (entE (130 + i) til), u⟩ 0) x.g) := by
  obtain ⟨X, hX⟩ : ∃ X : It, X = ⟨g, entE (130 + i) til, rv, CM.key (entE (130 + i) til), u⟩ := ⟨_, rfl⟩
  rw [← hX]
  have hXg : ∀ y ∈ c.h, y.g ≠ X.g := by rw [hX]; exact hg
  have hXk : X.key = CM.key X.e := by rw [hX]
  have hXc : CM.check X.e = 0 := by rw [hX]; exact ent_check (130 + i) (by omega) til 3 0 ht (by omega)
  have hXe : X.e.rank = 3 ∧ X.e.til = til := by rw [hX]; exact ⟨rfl, rfl⟩
  have hne : keyA ≠ X.key := by
    rw [hX]
    have := keyA_ne ⟨i, hi⟩
    exact fun e => this e.symm
  have I1 := I.inv.put X 0 hXg I.uses hXk hXc
  obtain ⟨xa, hxa, hka, hlast⟩ := I.has
  have hin := I.inv.put_stays X 0 hXg I.uses (by unfold CM.room; rw [I.most]; omega) hxa (by rw [hka]; exact hne) (by rw [(I.all xa hxa).2]; omega) hlast
  have htell := CM.tell_of I1 hin (now := til) (by rw [(I.all xa hxa).2]; exact Int.le_refl _)
  rw [hka] at htell
  have hu1 : 0 ≤ (CM.put c X 0).uses := by have := I.uses; show 0 ≤ c.uses + 1; omega
  have I2 := I1.used xa.g hu1
  have hall : ∀ x ∈ (CM.put c X 0).h, x.e.rank = 3 ∧ x.e.til = til := fun x hx => by
    rcases I.inv.put_mem X 0 hXg I.uses hx with rfl | ⟨h, _⟩
    · exact hXe
    · exact I.all x h
  refine ⟨xa, hin, htell, I2, I.most, by show 0 ≤ (CM.put c X 0).uses + 1; omega, fun x hx => ?_, ?_⟩
  · obtain ⟨y, hy, rfl⟩ := CM.used_mem hx
    split <;> exact hall y hy
  · refine ⟨{ xa with used := (CM.put c X 0).uses + 1 }, ?_, hka, fun z hz => ?_⟩
    · unfold CM.used
      exact List.mem_map.2 ⟨xa, hin, by simp⟩
    · exact (I2.le z hz).2
theorem StaysI.over {m til : Int} {c : C} (I : StaysI m til c) : CM.tell c keyA (til + 1) = none := CM.tell_none (fun x hx _ => by rw [(I.all x hx).2]; omega)
set_option maxRecDepth 10000 in
set_option maxHeartbeats 2000000 in
theorem stays_walk (cap oth til0 : Int) (w : World) (_ : (Lit.int .i64 cap).wf = true) (_ : (Lit.int .i64 oth).wf = true) (_ : (Lit.int .i64 til0).wf = true) :
    Calls Try.prog 4 #[.int .i64 cap, .int .i64 oth, .int .i64 til0] w fun e w' => e = .returned (.bool true) ∧ Touch [] w w' := by
  have hr : -19 < cap.tmod 19 ∧ cap.tmod 19 < 19 := by
    have := Int.tmod_lt_of_pos cap (show (0:Int) < 19 by decide)
    have h2 := Int.lt_tmod_of_pos cap (show (0:Int) < 19 by decide)
    omega
  have hq : -101 < oth.tmod 101 ∧ oth.tmod 101 < 101 := by
    have := Int.tmod_lt_of_pos oth (show (0:Int) < 101 by decide)
    have h2 := Int.lt_tmod_of_pos oth (show (0:Int) < 101 by decide)
    omega
  obtain ⟨r, hre⟩ : ∃ r, r = cap.tmod 19 := ⟨_, rfl⟩
  obtain ⟨q, hqe⟩ : ∃ r, r = oth.tmod 101 := ⟨_, rfl⟩
  rw [← hre] at hr
  rw [← hqe] at hq
  obtain ⟨hr0, hr1⟩ := hr
  obtain ⟨hq0, hq1⟩ := hq
  go_enter Try.func4, Try.ntmps4
  go_wp2_with fail
  refine (awake_any _).mono ?_
  rintro e w1 ⟨rfl, T1⟩
  have HT1 := Lib.hid T1
  clear T1
  go_upto_if 20 with (fail)
  go_cut [8] (fun s8 wx => (∃ k : Int, s8 = .int .i64 k ∧ 0 ≤ k ∧ k ≤ 18) ∧ wx = w1)
  case first =>
    by_cases hneg : r < 0
    · go_wp2
      go_meet
      exact ⟨⟨-r, by go_num, by omega⟩, rfl⟩
    · go_wp2
      go_meet
      exact ⟨⟨r, by go_num, by omega⟩, rfl⟩
  case rest =>
    obtain ⟨⟨k, rfl, hk0, hk1⟩, hw⟩ := hcut
    obtain rfl := hw.symm
    clear hre hr0 hr1
    go_upto_if 28 with (fail)
    go_cut [9] (fun s9 wx => (∃ k : Nat, s9 = .int .i64 (k : Int) ∧ k ≤ 100) ∧ wx = w1)
    case first =>
      by_cases hneg : q < 0
      · go_wp2
        go_meet
        exact ⟨⟨(-q).toNat, by go_num, by omega⟩, rfl⟩
      · go_wp2
        go_meet
        exact ⟨⟨q.toNat, by go_num, by omega⟩, rfl⟩
    case rest =>
      obtain ⟨⟨n, rfl, hn⟩, hw⟩ := hcut
      obtain rfl := hw.symm
      clear hqe hq0 hq1
      go_upto_region 9 with (fail)
      go_cut [36] (fun s wx => s = .bool (decide (til0 < 0 ∨ 1099511627776 < til0)) ∧ wx = w1)
      case first =>
        by_cases h1 : til0 < 0
        · have HD := Lib.hid (show decide (til0 < 0 ∨ 1099511627776 < til0) = true from decide_eq_true (.inl h1))
          go_wp2_with fail
          go_meet
          exact ⟨by rw [HD.out], rfl⟩
        · by_cases h2 : 1099511627776 < til0
          · have HD := Lib.hid (show decide (til0 < 0 ∨ 1099511627776 < til0) = true from decide_eq_true (.inr h2))
            have h3 : 0 ≤ til0 := by omega
            go_wp2_with fail
            go_meet
            exact ⟨by rw [HD.out], rfl⟩
          · have HD := Lib.hid (show decide (til0 < 0 ∨ 1099511627776 < til0) = false from decide_eq_false (by omega))
            have h3 : 0 ≤ til0 := by omega
            have h4 : til0 ≤ 1099511627776 := by omega
            go_wp2_with fail
            go_meet
            exact ⟨by rw [HD.out], rfl⟩
      case rest =>
        obtain ⟨rfl, hw⟩ := hcut
        obtain rfl := hw.symm
        go_upto_if 36 with (fail)
        go_cut [2] (fun s2 wx => (∃ t : Int, s2 = .int .i64 t ∧ 0 ≤ t ∧ t ≤ 1099511627776) ∧ wx = w1)
        case first =>
          by_cases h1 : til0 < 0 ∨ 1099511627776 < til0
          · have hd : decide (til0 < 0 ∨ 1099511627776 < til0) = true := decide_eq_true h1
            rw [hd]
            clear hd h1
            go_wp2_with fail
            go_meet
            exact ⟨⟨100, rfl, by omega, by omega⟩, rfl⟩
          · have hd : decide (til0 < 0 ∨ 1099511627776 < til0) = false := decide_eq_false h1
            have HH := Lib.hid h1
            rw [hd]
            clear hd h1
            go_wp2_with fail
            go_meet
            exact ⟨⟨til0, rfl, by have := HH.out; omega, by have := HH.out; omega⟩, rfl⟩
        case rest =>
          obtain ⟨⟨til, rfl, ht0, ht1⟩, hw⟩ := hcut
          obtain rfl := hw.symm
          have hwk : wrap64 (k + 2) = k + 2 := IntWalk.wrap64_in _ (by omega)
          have HK := Lib.hid (And.intro hk0 hk1)
          have HTL := Lib.hid (show 0 ≤ til ∧ til ≤ 1125899906842624 by omega)
          have HN := Lib.hid hn
          have hnw := onew w w1 HT1.out (k + 2)
          rw [show min (max (k + 2) 1) 100000 = k + 2 by omega] at hnw
          have HNW := Lib.hid hnw
          have HWT := Lib.hid (show wrap64 (til + 1) = til + 1 from IntWalk.wrap64_in _ (by omega))
          clear hk0 hk1 hnw ht0 ht1 hn
          go_wp2_with fail
          refine HNW.out.mono ?_
          rintro e w2 ⟨B, rfl, O2, T2⟩
          have HO2 := Lib.hid O2
          have HT2 := Lib.hid (HT1.out.trans T2 (by simp))
          clear O2 T2 hwk
          go_wp2_with fail
          refine (entry_any _ 97 (by omega) til).mono ?_
          rintro e w3 ⟨g3, rfl, _, b3, T3⟩
          have HO3 := Lib.hid (HO2.out.quiet T3)
          have HT3 := Lib.hid (HT2.out.trans T3 (by simp))
          have HB3 := Lib.hid b3
          clear T3 b3
          go_wp2_with fail
          refine (oputE w w3 B _ HO3.out 97 (by omega) til 3 0 g3 HB3.out 0 (by simp)).mono ?_
          rintro e w4 ⟨S4, h4, ⟨hm, _⟩ | ⟨hm, gx, rv, u, _, O4⟩⟩
          · have hmay : CM.mayPut ⟨k + 2, 0, []⟩ (entE 97 til) 0 = true := by
              unfold CM.mayPut
              rw [CM.refused_nil _ rfl, decide_eq_true ⟨ent_check 97 (by omega) til 3 0 HTL.out (by omega), by show (0 : Int) ≤ til; exact HTL.out.1⟩]
              rfl
            exact no_tf hm hmay
          have HT4 := Lib.hid (S4.touch HT3.out)
          have HO4 := Lib.hid O4
          have HI4 := Lib.hid (StaysI.start (k + 2) til (by have := HK.out; omega) gx rv u HTL.out)
          rw [hm] at h4
          subst h4
          clear S4 O4 hm
          go_wp2_with fail
          go_loopw [11] (fun s11 wr => ∃ (i : Nat) (c : C), s11 = .int .i64 (i : Int) ∧ i ≤ n ∧ c.uses ≤ 2 * i + 1 ∧ StaysI (k + 2) til c ∧ OC w wr B c ∧ Touch [] w wr) (fun s11 _ => n - (intOf s11).toNat)
          case atStart => exact ⟨0, _, rfl, Nat.zero_le _, by show (0 : Int) + 1 ≤ 2 * 0 + 1; omega, HI4.out, HO4.out, HT4.out⟩
          case round =>
            obtain ⟨i, c, rfl, hi, hu, I, O, T⟩ := hrel
            obtain ⟨wo, rfl⟩ : ∃ wo, wo = wr := ⟨_, rfl⟩
            have HI := Lib.hid (And.intro I (And.intro O (And.intro T (And.intro hu hi))))
            clear I O T hu
            by_cases hlt : i < n
            · have hi100 : i < 100 := by have := HN.out; omega
              have hltI : (i : Int) < (n : Int) := by omega
              have hw1 : wrap64 (130 + (i : Int)) = 130 + (i : Int) := IntWalk.wrap64_in _ (by omega)
              have hw8 : IntKind.u8.wrap (130 + (i : Int)) = ((130 + i : Nat) : Int) := by
                unfold IntKind.wrap
                simp [IntKind.signed, IntKind.bits]
                omega
              have HWR := Lib.hid (show wrap64 ((i : Int) + 1) = (i : Int) + 1 from IntWalk.wrap64_in _ (by omega))
              have HL := Lib.hid (And.intro hlt hi100)
              have HEN := Lib.hid (fun W => entry_any W (130 + i) (by omega) til)
              rw [show ((130 + i : Nat) : Int) = 130 + (i : Int) by omega] at HEN
              clear hlt hi hi100
              go_wp2_with fail
              refine (HEN.out _).mono ?_
              rintro e w5 ⟨g5, rfl, _, b5, T5⟩
              have HO5 := Lib.hid (HI.out.2.1.quiet T5)
              have HT5 := Lib.hid (HI.out.2.2.1.trans T5 (by simp))
              have HB5 := Lib.hid b5
              clear T5 b5 hw1 hw8
              go_wp2_with fail
              refine (oputE w w5 B _ HO5.out (130 + i) (by have := HL.out.2; omega) til 3 0 g5 HB5.out 0 (by have := HI.out.2.2.2.1; have := HL.out.2; omega)).mono ?_
              rintro e w6 ⟨S6, h6, ⟨hm, _⟩ | ⟨hm, gy, rvy, uy, hgy, O6⟩⟩
              · exact no_tf hm (HI.out.1.may HTL.out (130 + i) (by have := HL.out.2; omega))
              obtain ⟨xa, hxa, htell, I7⟩ := HI.out.1.put (by have := HK.out; omega) HTL.out i HL.out.2 gy rvy uy hgy
              obtain ⟨c6, hc6⟩ : ∃ c6, c6 = CM.put c ⟨gy, entE (130 + i) til, rvy, CM.key (entE (130 + i) til), uy⟩ 0 := ⟨_, rfl⟩
              have O6 : OC w w6 B (CM.put c ⟨gy, entE (130 + i) til, rvy, CM.key (entE (130 + i) til), uy⟩ 0) := O6
              rw [← hc6] at O6 htell I7
              have HU6 := Lib.hid (show c6.uses = c.uses + 1 by rw [hc6]; rfl)
              have HT6 := Lib.hid (S6.touch HT5.out)
              have HO6 := Lib.hid O6
              have HTE := Lib.hid htell
              have HI7 := Lib.hid I7
              rw [hm] at h6
              subst h6
              clear S6 O6 hm hgy htell I7 hc6 hxa
              go_wp2_with fail
              refine (oget w w6 B c6 HO6.out ⟨#[1, 97, 0]⟩ (by decide) 1 1 til (by rw [HU6.out]; have := HI.out.2.2.2.1; have := HL.out.2; omega)).mono ?_
              rintro e w7 ⟨S7, H7⟩
              rw [show CM.tell c6 (ofBs (CM.keyB 0 (bs ⟨#[1, 97, 0]⟩) ((1 : Nat) : Int) ((1 : Nat) : Int))) til = some xa from HTE.out] at H7
              rcases H7 with ⟨h7, _⟩ | ⟨x7, a7, cp7, h7, rfl, _, O7⟩
              · cases h7
              obtain rfl := Option.some.inj h7
              have HT7 := Lib.hid (S7.touch HT6.out)
              have HB7 := Lib.hid (Blk.new w7 25 zeroE)
              obtain ⟨w8, hw8⟩ : ∃ W, W = (w7.alloc (.cells zeroE 25)).setRow w7.heap.size (entV xa.e (.slice a7 xa.e.recs.length cp7)) := ⟨_, rfl⟩
              have HO8 := Lib.hid (show OC w w8 B (CM.used c6 xa.g) by rw [hw8]; exact O7.laid _)
              have HT8 := Lib.hid (show Touch [] w w8 by rw [hw8]; exact HT7.out.trans (laid_t _ _) (by simp))
              have HW8 := Lib.hid hw8
              clear S7 O7 h7 hw8
              go_wp2_with (refine wpList_store_rowTo rfl 25 (.tmp 12) (.tmp 65) rfl rfl w7.heap.size (entV xa.e (.slice a7 xa.e.recs.length cp7)) rfl rfl 25 zeroE HB7.out (by kernel_rfl) rfl (entV_cells _ _ _ _) ?_; rw [← HW8.out])
              refine (olen w _ B _ HO8.out).mono ?_
              rintro e w9 ⟨rfl, rfl⟩
              have hlen : (((CM.used c6 xa.g).h.length : Nat) : Int) ≤ k + 2 := by
                have := HI7.out.inv.len
                unfold CM.room at this
                rw [HI7.out.most] at this
                have := HK.out
                omega
              obtain ⟨ln, hln⟩ : ∃ n, n = (CM.used c6 xa.g).h.length := ⟨_, rfl⟩
              rw [← hln] at hlen ⊢
              have hwr := HWR.out
              clear hln
              go_wp2_with fail
              go_roundw
              case rel => exact ⟨i + 1, _, by rw [hwr]; rfl, HL.out.1, by rw [show (CM.used c6 xa.g).uses = c6.uses + 1 from rfl, HU6.out]; have := HI.out.2.2.2.1; push_cast; omega, HI7.out, HO8.out, HT8.out⟩
              case measure => exact lt_sub_of (x := i + 1) (i := i) (by rw [hwr]; rfl) rfl (Nat.sub_lt_sub_left HL.out.1 (Nat.lt_succ_self i))
            · have hge : (n : Int) ≤ (i : Int) := by omega
              have hwt := HWT.out
              clear hlt hi
              go_wp2_with fail
              refine (oget w _ B c HI.out.2.1 ⟨#[1, 97, 0]⟩ (by decide) 1 1 (til + 1) (by have := HI.out.2.2.2.1; have := HI.out.2.2.2.2; have := HN.out; omega)).mono ?_
              rintro e w7 ⟨S7, H7⟩
              rw [show CM.tell c (ofBs (CM.keyB 0 (bs ⟨#[1, 97, 0]⟩) ((1 : Nat) : Int) ((1 : Nat) : Int))) (til + 1) = none from HI.out.1.over] at H7
              rcases H7 with ⟨_, rfl, O7⟩ | ⟨x7, a7, cp7, h7, _⟩
              rotate_left
              · cases h7
              have HT7 := Lib.hid (S7.touch HI.out.2.2.1)
              have HB7 := Lib.hid (Blk.new w7 25 zeroE)
              clear S7 O7
              go_wp2_with (refine wpList_store_rowTo rfl 25 (.tmp 14) (.tmp 80) rfl rfl w7.heap.size zeroE rfl rfl 25 zeroE HB7.out (by kernel_rfl) rfl (entV_cells ⟨0, ⟨#[]⟩, 0, 0, [], 0, 0, 0, 0⟩ none 0 0) ?_)
              go_ret
              exact ⟨rfl, HT7.out.trans (laid_t _ _) (by simp)⟩
end Go.Proofs.Ytibbfihnhlgkeaa

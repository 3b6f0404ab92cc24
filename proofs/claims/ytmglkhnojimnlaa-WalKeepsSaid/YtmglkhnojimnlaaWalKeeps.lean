/- law10: WalKeeps. -/
import Derived.Test.YtmglkhnojimnlaaWalKeepsM
import Derived.Deep.CutBlock
namespace Go.Proofs.Ytmglkhnojimnlaa
open Go.RowKit Go.Maps

set_option maxRecDepth 100000 in
set_option maxHeartbeats 12800000 in
theorem keeps_w (w : World) (a : Option Addr) (len cap : Nat) (hl : len ≤ cap) (hc : cap ≤ maxLen) (ho : KOpsAt w a len) :
    Calls Try.prog 6 #[.slice a len cap] w fun e w' => e = .returned (.bool true) ∧ Touch [] w w' := by
  have hn : LM.opened (DM.new 100000) = ((0, DM.new 100000), []) := by kernel_rfl
  have HNEW := Lib.hid hn
  have HO := Lib.hid ho
  unfold maxLen at hc
  clear hn ho
  go_enter Try.func6, Try.ntmps6
  go_wp2_with fail
  refine (awake_any _).mono ?_
  rintro e w1 ⟨rfl, T1⟩
  go_wp2_with fail
  refine (onew w w1 T1 100000 (by decide)).mono ?_
  rintro e w2 ⟨rfl, o2, T2⟩
  obtain ⟨b, hb⟩ : ∃ b, b = w1.heap.size := ⟨_, rfl⟩
  rw [← hb] at o2 ⊢
  clear hb T1 T2
  go_wp2_with fail
  refine (oopen_good o2 (by omega) HNEW.out rfl).mono ?_
  rintro e w3 ⟨g3, a3', c3', rfl, o3, _, _, _, _⟩
  have hk3 : KS w w3 g3 b 100 1664 (LM.start (DM.new 100000) []) none 0 := ⟨o3.mono (by omega), LM.Inv.empty, (DM.Good.new _).mono (by omega), .inl rfl, ⟨Nat.le_refl _, fun _ => rfl⟩, Nat.zero_le _, by simp [LM.start, WM.all]⟩
  have HK3 := Lib.hid hk3
  rw [show ([] : List WM.Bs).length = 0 from rfl]
  clear o3 o2 hk3
  go_wp2_with fail
  go_loopw [5, 8, 9, 10] (fun s5 s8 s9 s10 wr => ∃ (i g : Nat) (x : LM.L) (al : Option Addr) (c : Nat), s5 = .pointer (some ⟨g, 0, none⟩) ∧ s8 = .slice al x.l.length c ∧ s9 = .int .i64 (x.firm : Int) ∧ s10 = .int .i64 i ∧ i ≤ 40 ∧ i ≤ len ∧
      KS w wr g b (100 * (i + 1)) (1664 * (i + 1)) x al c ∧ x.broken = false ∧ x.d.off = false) (fun _ _ _ s10 _ => 40 - (intOf s10).toNat)
  case atStart => exact ⟨0, g3, _, none, 0, rfl, rfl, rfl, rfl, by omega, by omega, HK3.out, rfl, rfl⟩
  case round =>
    as_aux_lemma =>
    obtain ⟨i, g, x, al, c, rfl, rfl, rfl, rfl, hi, hil, hK, hbr, hof⟩ := hrel
    have hxl := hK.len
    have hxlI : (x.l.length : Int) ≤ 100000 := by omega
    have HK := Lib.hid hK
    have HBR := Lib.hid hbr
    have HOF := Lib.hid hof
    by_cases hlt : i < len ∧ i < 40
    · obtain ⟨hlt, h40⟩ := hlt
      have h40I : (i : Int) < 40 := by omega
      obtain ⟨blk, off, kd, N, la, pa, lc, pl, pc, ss, ps, rfl, q0, q1, q2, q3, hkd, hN, hss, htx, hsz, hpl, hps⟩ := HO.out.touch hK.own.T i hlt
      obtain ⟨hkd0, hkd1⟩ := wf64_le hkd
      obtain ⟨hN0, hN1⟩ := wf64_le hN
      unfold maxLen at hpl
      have hplI : (pl : Int) ≤ 9223372036854775807 := by omega
      have HTX := Lib.hid htx
      have HSZ := Lib.hid (And.intro hss hsz)
      have HPS := Lib.hid hps
      clear hK hbr hof hkd hN hss htx hsz hps
      obtain ⟨w5, hw5⟩ : ∃ w5, w5 = wr.alloc (.cells #[.int .i64 kd, .int .i64 N, .slice la ss.length lc, .slice pa pl pc] 44) := ⟨_, rfl⟩
      have T5 : Touch [] wr w5 := hw5 ▸ (Touch.refl [] wr).alloc _
      have O5 : Blk w5 wr.heap.size 44 #[.int .i64 kd, .int .i64 N, .slice la ss.length lc, .slice pa pl pc] := hw5 ▸ Blk.new _ _ _
      obtain ⟨O, hO⟩ : ∃ O, O = wr.heap.size := ⟨_, rfl⟩
      have hK5 := HK.out.touch T5
      have hfw := few_any w5 la lc ss (HTX.out.touch T5) HSZ.out.1 HSZ.out.2
      have HFW := Lib.hid hfw
      have HK5 := Lib.hid hK5
      have HW5 := Lib.hid hw5
      clear hw5 hK5 hfw HTX HSZ HK T5
      go_wp2_with fail
      rw [← HW5.out]
      rw [← hO] at O5 ⊢
      refine HFW.out.mono ?_
      rintro e w6 ⟨v6, rfl, hR6, T6⟩
      obtain ⟨a6, c6, rfl, hc6, hm6, tx6⟩ := hR6.open'
      obtain ⟨fA, zA⟩ := fewL_fits ss
      have nA := fewL_len ss
      obtain ⟨xA, hxA⟩ : ∃ x, x = fewL ss := ⟨_, rfl⟩
      rw [← hxA] at fA zA nA tx6 hc6 ⊢
      have nAI : (xA.length : Int) ≤ 8 := by omega
      have O6 := T6.blk O5 (by simp)
      have hK6 := HK5.out.touch T6
      have HK6 := Lib.hid hK6
      have HTX6 := Lib.hid tx6
      have HFA := Lib.hid (And.intro fA zA)
      have HC6 := Lib.hid (And.intro hc6 hm6)
      have HO6 := Lib.hid O6
      have x0 := O6.cell 0
      have x1 := O6.cell 1
      clear hxA fA zA tx6 hc6 hm6 hR6 T6 O5 hK6 HK5 HFW HW5 hO q0 q1 q2 q3 O6
      go_upto_region 13 with (fail)
      go_cut [71] (fun s71 wx => (∃ tt : Bool, s71 = .bool tt) ∧ wx = w6)
      case first => -- done
        as_aux_lemma =>
        go_wp2_with fail
        all_goals
          go_meet
          exact ⟨⟨_, rfl⟩, rfl⟩
      case rest =>
      as_aux_lemma =>
      obtain ⟨⟨tt, rfl⟩, hw⟩ := hcut
      obtain rfl := hw.symm
      go_upto_if 71 with (fail)
      go_cut [] (fun wx => ∃ x' : LM.L, x'.l = x.l ∧ x'.firm = x.firm ∧ x'.broken = false ∧ x'.d.off = false ∧ KS w wx g b (100 * (i + 1)) (1664 * (i + 1)) x' al c ∧ TextsB wx a6 xA ∧ Blk wx O 44 #[.int .i64 kd, .int .i64 N, .slice la ss.length lc, .slice pa pl pc])
      case first => -- done
        as_aux_lemma =>
        cases tt
        · have HCT := Lib.hid (show ∃ x' : LM.L, x'.l = x.l ∧ x'.firm = x.firm ∧ x'.broken = false ∧ x'.d.off = false ∧ KS w w6 g b (100 * (i + 1)) (1664 * (i + 1)) x' al c ∧ TextsB w6 a6 xA ∧ Blk w6 O 44 #[.int .i64 kd, .int .i64 N, .slice la ss.length lc, .slice pa pl pc] from ⟨x, rfl, rfl, HBR.out, HOF.out, HK6.out, HTX6.out, HO6.out⟩)
          go_wp2_with fail
          go_meet
          exact HCT.out
        · have harm := oarm HK6.out.own N
          have HARM := Lib.hid harm
          clear harm
          go_wp2_with fail
          refine HARM.out.mono ?_
          rintro e w7 ⟨rfl, o7, k7⟩
          have hK7 := HK6.out.armed N o7 k7
          have htx7 := HTX6.out.keep k7 (by decide)
          have hO7 := k7 _ _ _ HO6.out (by decide)
          have HC := Lib.hid (show ∃ x' : LM.L, x'.l = x.l ∧ x'.firm = x.firm ∧ x'.broken = false ∧ x'.d.off = false ∧ KS w w7 g b (100 * (i + 1)) (1664 * (i + 1)) x' al c ∧ TextsB w7 a6 xA ∧ Blk w7 O 44 #[.int .i64 kd, .int .i64 N, .slice la ss.length lc, .slice pa pl pc] from ⟨{ x with d := DM.arm x.d N }, rfl, rfl, HBR.out, HOF.out, hK7, htx7, hO7⟩)
          clear hK7 htx7 hO7 o7 k7
          go_wp2_with fail
          go_meet
          exact HC.out
      case rest =>
        as_aux_lemma =>
        obtain ⟨x', hxl', hxf', hbr', hof', hK7, hTX7, hO7⟩ := hcut
        obtain ⟨w7, rfl⟩ : ∃ x, x = wc := ⟨_, rfl⟩
        rw [← hxl', ← hxf']
        have hx7 := hK7.len
        have hx7I : (x'.l.length : Int) ≤ 100000 := by omega
        have HK7 := Lib.hid hK7
        have HBR7 := Lib.hid hbr'
        have HOF7 := Lib.hid hof'
        have HTX7 := Lib.hid hTX7
        have HO7 := Lib.hid hO7
        have y0 := hO7.cell 0
        clear hxl' hxf' hK7 hbr' hof' hTX7 hO7 HK6 HTX6 HO6 HBR HOF x0 x1 hxl hxlI HK3 HNEW
        go_upto_if 80 with (fail)
        go_cut [15] (fun s15 wx => (∃ k : Int, s15 = .int .i64 k) ∧ wx = w7)
        case first => -- done
          as_aux_lemma =>
          go_wp2_with fail
          all_goals
            go_meet
            exact ⟨⟨_, rfl⟩, rfl⟩
        case rest =>
          as_aux_lemma =>
          obtain ⟨⟨k, rfl⟩, hw⟩ := hcut
          obtain rfl := hw.symm
          go_upto_block 2 with (fail)
          go_cut [8, 9, 13, 14, 16] (fun s8 s9 s13 s14 s16 wx => KA w wx g b (100 * (i + 1) + 8) (1664 * (i + 1) + 1664) O #[.int .i64 kd, .int .i64 N, .slice la ss.length lc, .slice pa pl pc] s8 s9 s13 s14 s16)
          case first => -- done
            as_aux_lemma =>
            have hsy := osync HK7.out.own (by omega)
            have hrw := orewrite HK7.out.own (by omega) a6 c6 xA HTX7.out HFA.out.1 (by have := HFA.out.2; omega) (by have := HK7.out.good.us; have := HFA.out.2; omega)
            have HSY := Lib.hid hsy
            have HRW := Lib.hid hrw
            clear hsy hrw
            by_cases h3 : k = 3
            · subst h3
              go_wp2_with fail
              refine HSY.out.mono ?_
              rintro e w8 ⟨rfl, o8, k8⟩
              obtain ⟨q1, q2⟩ := HK7.out.sync HBR7.out HO7.out o8 k8 (by omega)
              obtain ⟨rv, hrv⟩ : ∃ rv, rv = (LM.sync x').1 := ⟨_, rfl⟩
              rw [← hrv] at q1 q2 ⊢
              clear o8 k8 hrv y0
              by_cases h0 : rv = 0
              · subst h0
                have HQ := Lib.hid (q1 rfl)
                clear q1 q2
                go_wp2_with fail
                go_meet
                exact HQ.out
              · have h0' : (rv == 0) = false := by simpa using h0
                have HQ := Lib.hid (q2 h0)
                clear q1 q2 h0
                go_wp2_with fail
                go_meet
                exact HQ.out
            have h3' : (k == 3) = false := by simpa using h3
            by_cases h4 : k = 4
            · subst h4
              go_wp2_with fail
              refine HSY.out.mono ?_
              rintro e w8 ⟨rfl, o8, k8⟩
              obtain ⟨q1, q2⟩ := HK7.out.sync HBR7.out HO7.out o8 k8 (by omega)
              obtain ⟨rv, hrv⟩ : ∃ rv, rv = (LM.sync x').1 := ⟨_, rfl⟩
              rw [← hrv] at q1 q2 ⊢
              clear o8 k8 hrv y0
              by_cases h0 : rv = 0
              · subst h0
                have HQ := Lib.hid (q1 rfl)
                clear q1 q2
                go_wp2_with fail
                go_meet
                exact HQ.out
              · have h0' : (rv == 0) = false := by simpa using h0
                have HQ := Lib.hid (q2 h0)
                clear q1 q2 h0
                go_wp2_with fail
                go_meet
                exact HQ.out
            have h4' : (k == 4) = false := by simpa using h4
            by_cases h5 : k = 5
            · subst h5
              go_wp2_with fail
              refine HRW.out.mono ?_
              rintro e w8 ⟨rfl, o8, k8⟩
              obtain ⟨q1, q2⟩ := HK7.out.rewrite HBR7.out HO7.out HTX7.out HC6.out HFA.out.1 HFA.out.2 nA o8 k8
              obtain ⟨rv, hrv⟩ : ∃ rv, rv = (LM.rewrite x' (xA.map bs)).1 := ⟨_, rfl⟩
              rw [← hrv] at q1 q2 ⊢
              clear o8 k8 hrv y0
              by_cases h0 : rv = 0
              · subst h0
                have HQ := Lib.hid (q1 rfl)
                clear q1 q2
                go_wp2_with fail
                go_meet
                exact HQ.out
              · have h0' : (rv == 0) = false := by simpa using h0
                have HQ := Lib.hid (q2 h0)
                clear q1 q2 h0
                go_wp2_with fail
                go_meet
                exact HQ.out
            have h5' : (k == 5) = false := by simpa using h5
            clear h3 h4 h5
            have hr0 : w7.ownsRow w7.heap.size 9 1 (.slice none 0 0) 0 (([] : List ByteArray).map .string) := World.ownsRow_nil _ _ _ _
            have HR0 := Lib.hid hr0
            have hxm : (x'.l.map ofBs).length = x'.l.length := List.length_map ..
            have HXM := Lib.hid hxm
            clear hr0 hxm y0
            go_wp2_with (first
              | (at_builtin; refine app_str rfl (.tmp 84) (.tmp 85) rfl w7.heap.size (.slice none 0 0) [] 0 rfl rfl HR0.out al (x'.l.map ofBs) x'.l.length c HXM.out rfl (fun h => by have h1 := HK7.out.cap; have h2 := h1.2 h; exact ⟨by omega, h2⟩) HK7.out.txt.texts (by omega) (Nat.le_refl _) ?_; intro v8 w8 hr8 t8; have hr8' : w8.ownsRow w7.heap.size 9 1 v8 x'.l.length ((x'.l.map ofBs).map .string) := (by have h := hr8; unfold StrRow at h; rwa [List.nil_append, HXM.out] at h); have HR8 := Lib.hid hr8'; have T78 := Lib.hid (show Touch [] w7 w8 from t8); obtain ⟨a8, c8, rfl⟩ := ownsRow_shape' hr8'; clear hr8 t8 hr8')
              | (at_builtin; refine app_str rfl (.tmp 87) (.tmp 88) rfl w7.heap.size (.slice a8 x'.l.length c8) (x'.l.map ofBs) x'.l.length HXM.out rfl HR8.out a6 xA xA.length c6 rfl rfl (fun h => by have h1 := HC6.out.1; have h2 := h1.2 h; exact ⟨by omega, h2⟩) (HTX7.out.touch T78.out).texts (by omega) T78.out.size ?_; intro v9 w9 hr9 t9; have T79 := Lib.hid (show Touch [] w7 w9 from T78.out.trans t9 (fun k hk => .inr (HR8.out.lt k (by simpa using hk)).1)); obtain ⟨a9, c9, rfl, hc9, hm9, tx9⟩ := hr9.open'; have HC9 := Lib.hid (And.intro hc9 hm9); have TX9 := Lib.hid tx9; clear hr9 t9 hc9 hm9 tx9))
            have hap := oappend (HK7.out.own.touch T79.out) (by omega) a6 c6 xA (HTX7.out.touch T79.out) HFA.out.1 (by rw [WM.all_append, List.length_append]; have := HK7.out.small; have := HFA.out.2; omega) (by have := HK7.out.good.us; have := HFA.out.2; omega)
            have HAP := Lib.hid hap
            clear hap
            refine HAP.out.mono ?_
            rintro e wa ⟨rfl, oa, ka⟩
            obtain ⟨q1, q2⟩ := (HK7.out.touch T79.out).append HBR7.out (T79.out.blk HO7.out (by simp)) TX9.out HC9.out HFA.out.1 HFA.out.2 nA (by omega) oa ka
            obtain ⟨rv, hrv⟩ : ∃ rv, rv = (LM.append x' (xA.map bs)).1 := ⟨_, rfl⟩
            rw [← hrv] at q1 q2 ⊢
            clear oa ka hrv
            by_cases h0 : rv = 0
            · subst h0
              have HQ := Lib.hid (q1 rfl)
              clear q1 q2
              go_wp2_with fail
              go_meet
              exact HQ.out
            · have h0' : (rv == 0) = false := by simpa using h0
              have HQ := Lib.hid (q2 h0)
              clear q1 q2 h0
              go_wp2_with fail
              go_meet
              exact HQ.out
          case rest =>
            as_aux_lemma =>
            obtain ⟨x2, al2, c2, na, nc, nx, rwr, f, rfl, rfl, rfl, rfl, rfl, hK8, hfb, hTXn, hnc, hnm, hnl, hO8⟩ := hcut
            obtain ⟨w8, rfl⟩ : ∃ x, x = wc := ⟨_, rfl⟩
            have hx8 := hK8.len
            have hx8I : (x2.l.length : Int) ≤ 1000000 := by omega
            have HK8 := Lib.hid hK8
            have HFB := Lib.hid hfb
            have HTXN := Lib.hid hTXn
            have HNC := Lib.hid (And.intro hnc hnm)
            have HO8 := Lib.hid hO8
            clear hK8 hfb hTXn hnc hnm hO8 HK7 HBR7 HOF7 HTX7 HO7 HFA HC6 y0 hx7 hx7I HO
            go_upto_region 40 with (fail)
            go_cut [126] (fun s126 wx => (∃ cn : Bool, s126 = .bool cn ∧ (cn = true → f = 0 ∧ x2.d.off = false)) ∧ wx = w8)
            case first => -- done
              as_aux_lemma =>
              by_cases hf0 : f = 0
              · subst hf0
                have hon := oon HK8.out.own
                obtain ⟨off, hoff⟩ : ∃ off, off = x2.d.off := ⟨_, rfl⟩
                rw [← hoff] at hon
                have HON := Lib.hid hon
                have HOFF := Lib.hid hoff
                clear hon hoff
                go_wp2_with fail
                refine HON.out.mono ?_
                rintro e w8' ⟨rfl, rfl⟩
                cases off
                · by_cases h6 : k = 6
                  · subst h6
                    go_wp2_with fail
                    go_meet
                    exact ⟨⟨_, rfl, fun _ => ⟨trivial, HOFF.out.symm⟩⟩, rfl⟩
                  · have h6' : (k == 6) = false := by simpa using h6
                    go_wp2_with fail
                    go_meet
                    exact ⟨⟨_, rfl, fun _ => ⟨trivial, HOFF.out.symm⟩⟩, rfl⟩
                · go_wp2_with fail
                  go_meet
                  exact ⟨⟨false, rfl, fun h => by cases h⟩, rfl⟩
              · have hf0' : (f == 0) = false := by simpa using hf0
                clear hf0
                go_wp2_with fail
                go_meet
                exact ⟨⟨false, rfl, fun h => by cases h⟩, rfl⟩
            case rest =>
              as_aux_lemma =>
              obtain ⟨⟨cn, rfl, hcn⟩, hw⟩ := hcut
              obtain rfl := hw.symm
              have HCN := Lib.hid hcn
              clear hcn
              cases cn
              · go_wp2_with fail
                obtain ⟨wo, rfl⟩ : ∃ wo : World, wo = w8 := ⟨_, rfl⟩
                have hkc : KC w wo b (100 * (i + 1) + 8) (1664 * (i + 1) + 1664) O #[.int .i64 kd, .int .i64 N, .slice la ss.length lc, .slice pa pl pc] x2.d x2.l x2.firm al2 c2 na nx :=
                  ⟨HK8.out.own.own, HK8.out.good, .inl HK8.out.inv, HK8.out.inv.le, HK8.out.txt, HK8.out.cap, HK8.out.max, HK8.out.small, HTXN.out, HO8.out⟩
                have HKC := Lib.hid hkc
                clear hkc HK8 HFB HTXN HO8 HCN hx8 hx8I
                obtain ⟨wq, rfl⟩ : ∃ wq : World, wq = wr := ⟨_, rfl⟩
                go_loopw [8, 9, 17] (fun s8 s9 s17 wt => ∃ (t : Nat) (d : DM.D) (l : List WM.Bs) (fm : Nat) (al : Option Addr) (c : Nat), s8 = .slice al l.length c ∧ s9 = .int .i64 (fm : Int) ∧ s17 = .int .i64 t ∧ t ≤ 3 ∧
                    KC w wt b (100 * (i + 1) + 8 + 6 * t) (1664 * (i + 1) + 1664) O #[.int .i64 kd, .int .i64 N, .slice la ss.length lc, .slice pa pl pc] d l fm al c na nx ∧ (t = 3 → fm = l.length ∧ LM.Torn d.fl l)) (fun _ _ s17 _ => 3 - (intOf s17).toNat)
                case atStart => exact ⟨0, _, _, _, al2, c2, rfl, rfl, rfl, by omega, HKC.out, fun h => by omega⟩
                case round =>
                  as_aux_lemma =>
                  obtain ⟨t, d, l, fm, al, c, rfl, rfl, rfl, ht3, hkc, hend⟩ := hrel
                  have HKT := Lib.hid hkc
                  have HEND := Lib.hid hend
                  have hll : l.length ≤ 1000000 := by have h1 := lens_le l; have := hkc.small; omega
                  have hllI : (l.length : Int) ≤ 1000000 := by omega
                  have z3 := hkc.ops.cell 3
                  clear hkc hend
                  by_cases htl : t < 3
                  · have htlI : (t : Int) < 3 := by omega
                    go_wp2_with fail
                    refine (ocrash HKT.out.own (by omega) pa pl pc ps HPS.out).mono ?_
                    rintro e w9 ⟨rfl, o9, k9⟩
                    obtain ⟨j, hkd⟩ := HKT.out.crash o9 k9
                    have HKD := Lib.hid hkd
                    have z3 := hkd.ops.cell 3
                    have hle1 := hkd.le1
                    have hle2 := hkd.le2
                    clear hkd o9 k9
                    go_upto_region 45 with (fail)
                    go_cut [142] (fun s142 wx => (∃ cn : Bool, s142 = .bool cn ∧ (cn = true → t < 2)) ∧ wx = w9)
                    case first => -- done
                      as_aux_lemma =>
                      by_cases ht2 : t < 2
                      · have ht2I : (t : Int) < 2 := by omega
                        go_wp2_with fail
                        all_goals
                          go_meet
                          exact ⟨⟨_, rfl, fun _ => ht2⟩, rfl⟩
                      · have ht2I : ¬ (t : Int) < 2 := by omega
                        go_wp2_with fail
                        go_meet
                        exact ⟨⟨false, rfl, fun h => by cases h⟩, rfl⟩
                    case rest =>
                      as_aux_lemma =>
                      obtain ⟨⟨cn, rfl, hcn⟩, hw⟩ := hcut
                      obtain rfl := hw.symm
                      have HCN := Lib.hid hcn
                      clear hcn
                      go_upto_if 142 with (fail)
                      go_cut [] (fun wx => ∃ d', (t = 2 → d'.left = 0) ∧ KD w wx b (100 * (i + 1) + 8 + 6 * t) (1664 * (i + 1) + 1664) O #[.int .i64 kd, .int .i64 N, .slice la ss.length lc, .slice pa pl pc] d' l fm j al c na nx)
                      case first => -- done
                        as_aux_lemma =>
                        cases cn
                        · have HX := Lib.hid (show ∃ d' : DM.D, (t = 2 → d'.left = 0) ∧ KD w w9 b (100 * (i + 1) + 8 + 6 * t) (1664 * (i + 1) + 1664) O #[.int .i64 kd, .int .i64 N, .slice la ss.length lc, .slice pa pl pc] d' l fm j al c na nx from ⟨_, fun _ => rfl, HKD.out⟩)
                          go_wp2_with fail
                          go_meet
                          exact HX.out
                        · have harm := oarmD HKD.out.own (t : Int)
                          have HARM := Lib.hid harm
                          clear harm
                          go_wp2_with fail
                          refine HARM.out.mono ?_
                          rintro e wa ⟨rfl, oa, ka⟩
                          have HX := Lib.hid (show ∃ d' : DM.D, (t = 2 → d'.left = 0) ∧ KD w wa b (100 * (i + 1) + 8 + 6 * t) (1664 * (i + 1) + 1664) O #[.int .i64 kd, .int .i64 N, .slice la ss.length lc, .slice pa pl pc] d' l fm j al c na nx from ⟨_, fun h => by have := HCN.out trivial; omega, HKD.out.armed oa ka⟩)
                          clear oa ka
                          go_wp2_with fail
                          go_meet
                          exact HX.out
                      case rest =>
                        as_aux_lemma =>
                        obtain ⟨d', hleft, hkd⟩ := hcut
                        obtain ⟨wa, rfl⟩ : ∃ x, x = wc := ⟨_, rfl⟩
                        have HKA := Lib.hid hkd
                        have HLEFT := Lib.hid hleft
                        clear hkd hleft HKD HCN z3
                        go_wp2_with fail
                        refine (oopen HKA.out.own (by omega)).mono ?_
                        rintro e wb ⟨hbad, hgood⟩
                        by_cases h0 : (LM.opened d').1.1 = 0
                        · obtain ⟨gx, am, cm, rfl, om, tm, hcm, hmm, km⟩ := hgood h0
                          have hop := LM.opened_ends d' _ HKA.out.torn HKA.out.good.sorted HKA.out.off
                          have hml := (hop.good h0).1
                          rw [hml] at om tm hcm ⊢
                          have hjl : (l.take j).length = j := by rw [List.length_take]; omega
                          rw [hjl] at hcm ⊢
                          have hkdb : KD w wb b (100 * (i + 1) + 8 + 6 * t) (1664 * (i + 1) + 1664) O #[.int .i64 kd, .int .i64 N, .slice la ss.length lc, .slice pa pl pc] d' l fm j al c na nx → True := fun _ => trivial
                          clear hkdb
                          have htl2 := HKA.out.txt.keep km (by decide)
                          have hnx2 := HKA.out.nxt.keep km (by decide)
                          have hjI : (j : Int) ≤ 1000000 := by omega
                          have hpf := prefix_any wb am al cm c ((l.take j).map ofBs) (l.map ofBs) (fm : Int) tm.texts htl2.texts (by rw [List.length_map, hjl]; omega) (by rw [List.length_map]; omega) (by rw [List.length_map]; exact HKA.out.cap.1) HKA.out.max
                          rw [prefix_take l j fm hle1 hle2, List.length_map, List.length_map, hjl] at hpf
                          have HPF := Lib.hid hpf
                          have HOM := Lib.hid om
                          have HTM := Lib.hid tm
                          have HCM := Lib.hid (And.intro hcm hmm)
                          have HKM := Lib.hid km
                          have HNX2 := Lib.hid hnx2
                          have HJL := Lib.hid hjl
                          have HH0 := Lib.hid h0
                          clear hpf om tm hcm hmm km htl2 hnx2 hop hml hbad hgood hjl h0
                          go_wp2_with fail
                          refine HPF.out.mono ?_
                          rintro e wd ⟨rfl, jd, hwd⟩
                          have Td : Touch [] wb wd := hwd ▸ Touch.drewN [] wb jd
                          have HTD := Lib.hid Td
                          clear hwd Td
                          go_upto_region 51 with (fail)
                          go_cut [22] (fun s22 wx => (∃ z : Bool, s22 = .bool z) ∧ Touch [] wb wx)
                          case first =>
                            as_aux_lemma =>
                            cases rwr
                            · have hp2 := prefix_any wd am na cm nc ((l.take j).map ofBs) nx (fm : Int) ((HTM.out.touch HTD.out).texts) ((HNX2.out.touch HTD.out).texts) (by rw [List.length_map, HJL.out]; omega) (by omega) HNC.out.1 HNC.out.2
                              rw [List.length_map, HJL.out] at hp2
                              obtain ⟨z, hz⟩ : ∃ z, z = prefixB ((l.take j).map ofBs) nx (fm : Int) := ⟨_, rfl⟩
                              rw [← hz] at hp2
                              have HP2 := Lib.hid hp2
                              clear hp2 hz
                              go_wp2_with fail
                              refine HP2.out.mono ?_
                              rintro e we ⟨rfl, je, hwe⟩
                              have HTE := Lib.hid (show Touch [] wb we from HTD.out.trans (hwe ▸ Touch.drewN [] wd je) (by simp))
                              clear hwe
                              cases z
                              all_goals
                                go_wp2_with fail
                                go_meet
                                exact ⟨⟨_, rfl⟩, HTE.out⟩
                            · have hp2 := same_any wd am na cm nc ((l.take j).map ofBs) nx ((HTM.out.touch HTD.out).texts) ((HNX2.out.touch HTD.out).texts) (by rw [List.length_map, HJL.out]; omega) (by omega)
                              rw [List.length_map, HJL.out] at hp2
                              obtain ⟨z, hz⟩ : ∃ z, z = sameB ((l.take j).map ofBs) nx := ⟨_, rfl⟩
                              rw [← hz] at hp2
                              have HP2 := Lib.hid hp2
                              clear hp2 hz
                              go_wp2_with fail
                              refine HP2.out.mono ?_
                              rintro e we ⟨rfl, je, hwe⟩
                              have HTE := Lib.hid (show Touch [] wb we from HTD.out.trans (hwe ▸ Touch.drewN [] wd je) (by simp))
                              clear hwe
                              go_wp2_with fail
                              go_meet
                              exact ⟨⟨_, rfl⟩, HTE.out⟩
                          case rest =>
                            as_aux_lemma =>
                            obtain ⟨⟨z, rfl⟩, T⟩ := hcut
                            obtain ⟨we, rfl⟩ : ∃ x, x = wc := ⟨_, rfl⟩
                            have HT := Lib.hid T
                            clear T HTD HPF
                            go_wp2_with fail
                            refine (ocrash (HOM.out.own.touch HT.out) (by omega) none 0 0 [] (Picks.nil_ w)).mono ?_
                            rintro e wf ⟨rfl, of_, kf⟩
                            have hdone := HKA.out.done HH0.out (HTM.out.touch HT.out) (by rw [HJL.out]; exact HCM.out.1) HCM.out.2 (HKM.out.trans (KeepBut.touch walTs HT.out)) of_ kf
                            rw [HJL.out] at hdone
                            have HDONE := Lib.hid hdone
                            clear hdone of_ kf
                            go_wp2_with fail
                            go_roundw
                            case rel => exact ⟨t + 1, _, l.take j, j, am, cm, by rw [HJL.out], rfl, by go_num, by omega, by rw [show 100 * (i + 1) + 8 + 6 * (t + 1) = 100 * (i + 1) + 8 + 6 * t + 6 by omega]; exact HDONE.out.1, fun _ => ⟨HJL.out.symm, HDONE.out.2⟩⟩
                            case measure => simp [intOf]; omega
                        · obtain ⟨rfl, ob, kb⟩ := hbad h0
                          have h0' : ((LM.opened d').1.1 == 0) = false := by simpa using h0
                          have hkc := HKA.out.bad ob kb
                          have ht2 : t ≠ 2 := fun h => by
                            have hop := LM.opened_ends d' _ HKA.out.torn HKA.out.good.sorted HKA.out.off
                            exact h0 (hop.left (HLEFT.out h)).1
                          have HKC2 := Lib.hid hkc
                          obtain ⟨ev, hev⟩ : ∃ ev, ev = (LM.opened d').1.1 := ⟨_, rfl⟩
                          rw [← hev] at h0' ⊢
                          clear ob kb hkc hbad hgood h0 hev
                          go_wp2_with fail
                          go_roundw
                          case rel => exact ⟨t + 1, _, l, fm, al, c, rfl, rfl, by go_num, by omega, by rw [show 100 * (i + 1) + 8 + 6 * (t + 1) = 100 * (i + 1) + 8 + 6 * t + 6 by omega]; exact HKC2.out, fun h => by omega⟩
                          case measure => simp [intOf]; omega
                  · obtain rfl : t = 3 := by omega
                    obtain ⟨rfl, htorn⟩ := HEND.out rfl
                    have c1 : LM.Calm (DM.crash d []) d.room := LM.Calm.crash d []
                    obtain ⟨e1, e2, e3⟩ := c1.opened (htorn.crash []) (HKT.out.good.crash []).sorted
                    have g1 := LM.opened_good (HKT.out.good.crash [])
                    have HE1 := Lib.hid (And.intro e1 (And.intro e2 (And.intro e3 g1)))
                    clear e1 e2 e3 g1 c1 htorn HEND
                    go_wp2_with fail
                    refine (ocrash HKT.out.own (by omega) none 0 0 [] (Picks.nil_ w)).mono ?_
                    rintro e w9 ⟨rfl, o9, k9⟩
                    have O9 := Lib.hid o9
                    have K9 := Lib.hid k9
                    clear o9 k9
                    go_wp2_with fail
                    refine (oopen_good O9.out (by omega) HE1.out.2.1 rfl).mono ?_
                    rintro e wa ⟨ga, aa, ca, rfl, oa, ta, hca, hma, ka⟩
                    have htl := (HKT.out.txt.keep K9.out (by decide)).keep ka (by decide)
                    have hsm := same_any wa aa al ca c (l.map ofBs) (l.map ofBs) ta.texts htl.texts (by rw [List.length_map]; omega) (by rw [List.length_map]; omega)
                    rw [sameB_refl, List.length_map] at hsm
                    have HSM := Lib.hid hsm
                    have hks : KS w wa ga b (100 * (i + 1) + 8 + 6 * 3 + 6) (1664 * (i + 1) + 1664) (LM.start (LM.opened (DM.crash d [])).1.2 l) aa ca := ⟨oa, HE1.out.2.2.1, HE1.out.2.2.2, ta, hca, hma, HKT.out.small⟩
                    have HKS := Lib.hid hks
                    have hself : ((l.length : Int) == (l.length : Int)) = true := by simp
                    clear hsm hks oa ta hca hma ka htl
                    go_wp2_with fail
                    refine HSM.out.mono ?_
                    rintro e wd ⟨rfl, jd, hwd⟩
                    have HTD := Lib.hid (show Touch [] wa wd from hwd ▸ Touch.drewN [] wa jd)
                    clear hwd
                    go_wp2_with fail
                    go_roundw
                    case rel => exact ⟨i + 1, ga, LM.start (LM.opened (DM.crash d [])).1.2 l, aa, ca, rfl, rfl, rfl, by go_num, by omega, by omega, (HKS.out.touch HTD.out).mono (by omega) (by omega), rfl, HE1.out.1.off⟩
                    case measure => simp [intOf]; omega
              · go_wp2_with fail
                go_roundw
                case rel => exact ⟨i + 1, g, x2, al2, c2, rfl, rfl, rfl, by go_num, by omega, by omega, HK8.out.mono (by omega) (by omega), HFB.out (HCN.out rfl).1, (HCN.out rfl).2⟩
                case measure => simp [intOf]; omega
    · have hne : ¬ (i < len ∧ i < 40) := hlt
      clear hK
      by_cases h2 : i < len
      all_goals
        go_wp2_with fail
        go_ret
        exact ⟨rfl, HK.out.own.T⟩
theorem keeps_walk (a : Option Addr) (l c : Nat) (w : World) (h : Rd w 37 [.slice a l c]) :
    Calls Try.prog 6 #[.slice a l c] w fun e w' => e = .returned (.bool true) ∧ Touch [] w w' := by
  obtain ⟨hl, hc, ho⟩ := h.kops
  exact keeps_w w a l c hl hc ho
end Go.Proofs.Ytmglkhnojimnlaa

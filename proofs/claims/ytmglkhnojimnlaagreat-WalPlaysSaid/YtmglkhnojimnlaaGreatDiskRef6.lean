/- Package fingerpostref09: Crash, Copy. -/
import Derived.Test.YtmglkhnojimnlaaGreatDiskRef5
import Derived.Deep.DeepCutAuto
import Derived.StillTailTactics
namespace Go.Proofs.YtmglkhnojimnlaaGreat
open Go.RowKit Go.Maps Go.WideMaps
open DM (N F FL Sorted)

theorem pick_drop (ps : List Int) (i : Nat) : DM.pick (ps.drop i) = ((ps[i]?).getD 0, ps.drop (i + 1)) := by
  by_cases h : i < ps.length
  · rw [List.drop_eq_getElem_cons h, List.getElem?_eq_getElem h]
    rfl
  · rw [List.drop_eq_nil_of_le (by omega), List.drop_eq_nil_of_le (by omega), List.getElem?_eq_none (by omega)]
    rfl
theorem cellsL_set : ∀ (l : FL) (i : Nat) (h : i < l.length) (s : ByteArray) (m : Nat), ((cellsL l).set (i * 3 + 1) (.string s)).set (i * 3 + 2) (.int .i64 (m : Int)) = cellsL (l.set i (l[i].1, (s, m)))
  | p :: l, 0, _, s, m => by simp [cellsL, cellsF]
  | p :: l, i + 1, h, s, m => by
    simp only [cellsL, List.set_cons_succ, List.getElem_cons_succ]
    rw [← cellsL_set l i (by simpa using h) s m]
    have hp : (cellsF p).length = 3 := rfl
    rw [show (i + 1) * 3 + 1 = (cellsF p).length + (i * 3 + 1) by rw [hp]; omega, show (i + 1) * 3 + 2 = (cellsF p).length + (i * 3 + 2) by rw [hp]; omega,
      List.set_append_right _ _ (by omega), List.set_append_right _ _ (by omega)]
    simp
theorem ownsRow_set {w : World} {B g cap n : Nat} {l : FL} (hn : n = l.length) (h : w.ownsRow B 68 3 (.slice (some ⟨g, 0, none⟩) n cap) n (cellsL l)) (i : Nat) (hi' : i < n) (s : ByteArray) (m : Nat) :
    ((w.setCell ⟨g, i * 3 + 1, none⟩ (.string s)).setCell ⟨g, i * 3 + 2, none⟩ (.int .i64 (m : Int))).ownsRow B 68 3 (.slice (some ⟨g, 0, none⟩) n cap) n (cellsL (l.set i ((l[i]'(hn ▸ hi')).1, (s, m)))) := by
  subst hn
  have hi := hi'
  obtain ⟨hl, hv⟩ := h
  rcases hv with ⟨e, _⟩ | ⟨g', cap', cur, e, h1, h2, h3, h4, h5, h6⟩
  · cases e
  · cases e
    have hb : Blk w g 68 cur := h2
    refine ⟨by rw [cellsL_length]; simp, .inr ⟨g, cap, _, rfl, h1, (hb.set_ (i * 3 + 1) (.string s)).set_ (i * 3 + 2) (.int .i64 (m : Int)), h3, h4, by simpa using h5, ?_⟩⟩
    rw [← cellsL_set l i hi s m, ← h6]
    simp only [Array.toList_setIfInBounds]
    rw [List.take_set, List.take_set]
theorem half_set {l : FL} (hs : Sorted l) (ps : List Int) (i : Nat) (h : i < l.length) : (DM.half l ps i).set i (l[i].1, (DM.tear l[i].2 (DM.picksL (l.take i) ps)).1) = DM.half l ps (i + 1) := by
  have hi : i < (DM.half l ps i).length := by rw [DM.length_half]; exact h
  have h1 := DM.put_at (DM.sorted_half hs ps i) i hi (DM.tear l[i].2 (DM.picksL (l.take i) ps)).1
  rw [DM.half_at l ps i h] at h1
  rw [← h1, DM.half_succ hs ps i h]
theorem flip_join (b : ByteArray) (h : 0 < b.size) : b.extract 0 (b.size - 1) ++ (⟨#[255 - b.data[b.size - 1]'(by show b.size - 1 < b.size; omega)]⟩ : ByteArray) = DM.flip b := by
  apply ByteArray.ext
  rw [ByteArray.data_append, ByteArray.data_extract]
  have hd : (DM.flip b).data = b.data.setIfInBounds (b.size - 1) (255 - b.get! (b.size - 1)) := rfl
  have hs : b.data.size = b.size := rfl
  have hg : b.get! (b.size - 1) = b.data[b.size - 1]'(by omega) := by
    show b.data[b.size - 1]! = _
    rw [getElem!_pos b.data (b.size - 1) (by omega)]
  rw [hd, hg]
  apply Array.ext
  · simp; omega
  · intro i h1 h2
    simp only [Array.size_append, Array.size_extract] at h1
    by_cases e : i = b.size - 1
    · subst e
      rw [Array.getElem_append_right (by simp), Array.getElem_setIfInBounds_self]
      simp
    · have hi2 : i < b.data.size := by simpa using h2
      rw [Array.getElem_setIfInBounds_ne hi2 (fun e2 => e e2.symm), Array.getElem_append_left (by simp only [Array.size_extract]; have h3 : (#[255 - b.data[b.size - 1]'(by omega)] : Array UInt8).size = 1 := rfl; rw [h3] at h1; omega)]
      simp

structure CR (w0 w : World) (B b n : Nat) (v : Value) (d : DM.D) (ps : List Int) (i k : Nat) : Prop where
  ref : RefAt w B b v n { d with fl := DM.half d.fl ps i }
  picks : DM.picksL (d.fl.take i) ps = ps.drop k
  le : k ≤ 2 * i
  T : Touch (b :: v.ownBlock.toList) w0 w

set_option maxRecDepth 10000 in
set_option maxHeartbeats 6400000 in
theorem rcrash_any (w : World) (B b n : Nat) (v : Value) (d : DM.D) (h : RefAt w B b v n d) (hn : n < 1099511627773) (a0 : Option Addr) (l0 c0 : Nat) (ps : List Int) (hps : PicksAt (b :: v.ownBlock.toList) w (.slice a0 l0 c0) ps) :
    Calls Tryz.prog 26 #[.pointer (some ⟨b, 0, none⟩), .slice a0 l0 c0] w fun e w' => e = .returned (.tuple #[]) ∧ RefAt w' B b v n (DM.crash d ps) ∧ Touch (b :: v.ownBlock.toList) w w' := by
  have hp9 := hps
  obtain ⟨a0', c0', e9, hpl, hpm, hpw, hpc⟩ := hp9
  cases e9
  have hstart : CR w w B b n v d ps 0 0 := ⟨by rw [DM.half_zero]; exact h, rfl, Nat.le_refl _, Touch.refl _ _⟩
  have HS := Lib.hid hstart
  have H := Lib.hid h
  have HP := Lib.hid hps
  have HPW := Lib.hid hpw
  have HPC := Lib.hid hpc
  have hlen := h.fit.len
  have hlb : (d.fl.length : Int) ≤ 1099511627776 := by omega
  have hpb : (ps.length : Int) ≤ 9223372036854775807 := by unfold maxLen at hpm; omega
  obtain ⟨a, cap, hv, hc, hm, h0, _⟩ := h.open
  subst hv
  have HA := Lib.hid h0
  have hcb : (cap : Int) ≤ 9223372036854775807 := by unfold maxLen at hm; omega
  clear hstart h hps hpw hpc hlen h0 hm hpm
  go_enter Tryz.func26, Tryz.ntmps26
  go_wp2_with fail
  go_loopw [4, 5] (fun v4 v5 wr => ∃ i k : Nat, i ≤ d.fl.length ∧ v4 = .int .i64 k ∧ v5 = .int .i64 i ∧ CR w wr B b n (.slice a d.fl.length cap) d ps i k) (fun _ v5 _ => d.fl.length - (intOf v5).toNat)
  case atStart => exact ⟨0, 0, Nat.zero_le _, rfl, rfl, HS.out⟩
  case round =>
    obtain ⟨i, k, hi, rfl, rfl, hcr⟩ := hrel
    have hk2 := hcr.le
    have c1 := hcr.ref.c1
    by_cases hlt : i < d.fl.length
    · obtain ⟨a', cap', hv', _, _, _, hop⟩ := hcr.ref.open
      simp only [DM.length_half] at hv'
      cases hv'
      obtain ⟨g, rfl⟩ : ∃ g, a = some ⟨g, 0, none⟩ := by
        cases a with
        | none => have := (HA.out rfl).1; omega
        | some ad =>
          obtain ⟨g, o, sp⟩ := ad
          obtain ⟨rfl, rfl, _⟩ := hop g o sp rfl
          exact ⟨g, rfl⟩
      obtain ⟨_, _, _, hgB, ⟨cur, hcur, hcs⟩, hcl⟩ := hop g 0 none rfl
      obtain ⟨x0, x1, x2⟩ := hcl i (by simp only [DM.length_half]; exact hlt)
      simp only [DM.half_at d.fl ps i hlt] at x0 x1 x2
      have hel := List.getElem_mem hlt
      have hfl2 := (H.out.fit.each _ hel).1
      have hus := DM.sz_le d.fl d.fl[i].1
      rw [look_at H.out.fit.sorted i hlt] at hus
      have hsz : (d.fl[i].2.1.size : Int) ≤ 1099511627776 := by have := H.out.fit.small; simp only [DM.sz] at hus; omega
      obtain ⟨ks, hks⟩ : ∃ ks, ks = str d.fl[i].1 := ⟨_, rfl⟩
      obtain ⟨f, hf⟩ : ∃ f, f = d.fl[i].2 := ⟨_, rfl⟩
      rw [← hks] at x0
      rw [← hf] at x1 x2 hsz hfl2
      obtain ⟨fd, fl⟩ := f
      simp only at x1 x2 hsz hfl2
      have HK := Lib.hid hks
      have HF := Lib.hid hf
      have HCR := Lib.hid hcr
      have hF := Blk.new wr 68 #[.string ks, .string fd, .int .i64 (fl : Int)]
      have TF := (Touch.refl [] wr).alloc (.cells #[.string ks, .string fd, .int .i64 (fl : Int)] 68)
      obtain ⟨p, hp⟩ : ∃ p, p = (ps[k]?).getD 0 := ⟨_, rfl⟩
      have HPP := Lib.hid hp
      have hpwf : -9223372036854775808 ≤ p ∧ p ≤ 9223372036854775807 := by
        rw [hp]
        by_cases hk : k < ps.length
        · rw [List.getElem?_eq_getElem hk]
          exact wf64_le (HPW.out _ (List.getElem_mem hk))
        · rw [List.getElem?_eq_none (by omega)]
          exact ⟨by decide, by decide⟩
      have hcell : k < ps.length → ∃ gp o, a0 = some ⟨gp, o, none⟩ ∧ ∀ W, Touch [] wr W → W.cell? ⟨gp, o + k, none⟩ = some (.int .i64 p) := fun hk => by
        obtain ⟨gp, o, e, hg, hc⟩ := HPC.out (by intro e; rw [e] at hk; simp at hk)
        refine ⟨gp, o, e, fun W hW => ?_⟩
        have h1 := hcr.T.cell (hc k hk) hg
        rw [hp, List.getElem?_eq_getElem hk]
        exact hW.cell h1 (by simp)
      have HCELL := Lib.hid hcell
      clear hp hcell hks hf hcl hop hus hel hcr
      go_upto_if 29 with (fail)
      obtain ⟨w3, hw3⟩ : ∃ w3, w3 = wr.alloc (.cells #[.string ks, .string fd, .int .i64 (fl : Int)] 68) := ⟨_, rfl⟩
      rw [← hw3] at hF TF
      rw [← hw3]
      have HW3 := Lib.hid hw3
      clear hw3
      go_cut [7] from 10 to 103 (fun s7 wx => s7 = .int .i64 (DM.fold p) ∧ wx = w3)
      case first =>
        by_cases hk : k < ps.length
        · obtain ⟨gp, o, rfl, hcc⟩ := HCELL.out hk
          have hc3 := hcc w3 TF
          have he : ∀ x, x = (if p < 0 then -(p + 1) else p) → Value.int .i64 x = Value.int .i64 (DM.fold p) := fun x hx => by rw [hx]; rfl
          have HE := Lib.hid he
          clear he
          by_cases hp0 : p < 0
          · go_wp2
            go_meet
            exact ⟨HE.out _ (by rw [if_pos hp0]), rfl⟩
          · go_wp2
            go_meet
            exact ⟨HE.out _ (by rw [if_neg (by omega)]), rfl⟩
        · have hp0 : DM.fold p = 0 := by rw [HPP.out, List.getElem?_eq_none (by omega)]; rfl
          have HF0 := Lib.hid hp0
          clear hp0
          go_wp2
          go_meet
          exact ⟨by rw [HF0.out], rfl⟩
      case rest =>
        obtain ⟨rfl, hw⟩ := hcut
        obtain rfl := hw.symm
        have hq0 : 0 ≤ DM.fold p ∧ DM.fold p ≤ 9223372036854775807 := by unfold DM.fold; split <;> omega
        have hmd : (DM.fold p).tmod ((fd.size : Int) - (fl : Int) + 1) = ((DM.more (fd, fl) p : Nat) : Int) := by
          unfold DM.more
          have e : (((fd.size - fl + 1 : Nat)) : Int) = (fd.size : Int) - (fl : Int) + 1 := by omega
          rw [e, Int.toNat_of_nonneg (Int.emod_nonneg _ (by omega)), Int.tmod_eq_emod_of_nonneg hq0.1]
        have hml := DM.more_le (fd, fl) p
        obtain ⟨q, hq⟩ : ∃ q, q = DM.fold p := ⟨_, rfl⟩
        rw [← hq] at hmd hq0 ⊢
        obtain ⟨m, hm⟩ : ∃ m, m = DM.more (fd, fl) p := ⟨_, rfl⟩
        rw [← hm] at hmd hml
        have HM := Lib.hid hm
        have hflI : (fl : Int) ≤ (fd.size : Int) := by omega
        have hmI : (fl : Int) + (m : Int) ≤ (fd.size : Int) := by simp only at hml; omega
        have f1 : w3.cell? ⟨wr.heap.size, 1, none⟩ = some (.string fd) := hF.cell 1
        have f2 : w3.cell? ⟨wr.heap.size, 2, none⟩ = some (.int .i64 (fl : Int)) := hF.cell 2
        clear hq hm hml
        go_upto_if 58 with (fail)
        obtain ⟨bs, hbs⟩ : ∃ bs, bs = fd.extract 0 (fl + m) := ⟨_, rfl⟩
        have hbz : bs.size = fl + m := by rw [hbs, ByteArray.size_extract]; omega
        rw [← hbs]
        have hbI : (bs.size : Int) ≤ 1099511627776 := by omega
        have HBS := Lib.hid (And.intro hbs hbz)
        -- the second pick
        have hpk : DM.picksL (d.fl.take i) ps = ps.drop k := HCR.out.picks
        have hte : DM.tear (fd, fl) (ps.drop k) = if 0 < m then (if ((ps[k + 1]?).getD 0) % 2 = 1 then ((DM.flip bs, bs.size), ps.drop (k + 2)) else ((bs, bs.size), ps.drop (k + 2))) else ((bs, bs.size), ps.drop (k + 1)) := by
          rw [DM.tear_eq, pick_drop, pick_drop]
          simp only [← HPP.out, ← HM.out, ← hbs]
        have HTE := Lib.hid hte
        have hcell2 : k + 1 < ps.length → ∃ gp o p2, a0 = some ⟨gp, o, none⟩ ∧ (∀ W, Touch [] wr W → W.cell? ⟨gp, o + (k + 1), none⟩ = some (.int .i64 p2)) ∧ p2 = (ps[k + 1]?).getD 0 := fun hk => by
          obtain ⟨gp, o, e, hg, hc⟩ := HPC.out (by intro e; rw [e] at hk; simp at hk)
          refine ⟨gp, o, ps[k + 1], e, fun W hW => ?_, by rw [List.getElem?_eq_getElem hk]; rfl⟩
          exact hW.cell (HCR.out.T.cell (hc (k + 1) hk) hg) (by simp)
        have HC2 := Lib.hid hcell2
        clear hbs hbz hte hcell2 hpk f1 f2 hmd
        go_cut [4, 9] from 10 to 103 (fun s4 s9 wx => ∃ (k' : Nat) (nb : ByteArray), s4 = .int .i64 k' ∧ s9 = .string nb ∧ k' ≤ k + 2 ∧ DM.tear (fd, fl) (ps.drop k) = ((nb, bs.size), ps.drop k') ∧ nb.size = bs.size ∧ Touch [] w3 wx)
        case first =>
          by_cases hm0 : m = 0
          · subst hm0
            go_wp2_with fail
            go_meet
            exact ⟨k + 1, bs, by go_num, rfl, by omega, by rw [HTE.out, if_neg (by omega)], rfl, Touch.refl _ _⟩
          · have hmp : (0 : Int) < (m : Int) := by omega
            have HM0 := Lib.hid (show 0 < m by omega)
            by_cases hk1 : k + 1 < ps.length
            · obtain ⟨gp, o, p2, rfl, hcc, hp2⟩ := HC2.out hk1
              have hc3 := hcc w3 TF
              have hkI : (k : Int) + 1 < (ps.length : Int) := by omega
              have HP2 := Lib.hid hp2
              clear hp2
              by_cases hodd : p2 % 2 = 1
              · have ht2 : (p2.tmod 2 == 0) = false := by
                  have := Int.tmod_eq_emod (a := p2) (b := 2)
                  simp only [beq_eq_false_iff_ne]
                  intro h9
                  rw [h9] at this
                  split at this <;> omega
                have HO := Lib.hid hodd
                clear hodd
                have hb0 : 0 < bs.size := by have := HBS.out.2; have := HM0.out; omega
                have hls : bs.size - 1 < bs.size := by omega
                have hbI0 : (1 : Int) ≤ (bs.size : Int) := by omega
                have hbI1 : (0 : Int) ≤ (bs.size : Int) - 1 := by omega
                have hbI2 : (bs.size : Int) - 1 ≤ (bs.size : Int) := by omega
                have hbI3 : (bs.size : Int) - 1 < (bs.size : Int) := by omega
                have hbI4 : ((bs.size : Int) - 1).toNat = bs.size - 1 := by omega
                obtain ⟨yb, hyb⟩ : ∃ yb, yb = 255 - bs.data[bs.size - 1]'hls := ⟨_, rfl⟩
                have hy : ((255 : Int) - (bs[bs.size - 1].toNat : Int)) % 256 = (yb.toNat : Int) := by
                  have e9 : bs[bs.size - 1] = bs.data[bs.size - 1]'hls := rfl
                  rw [e9, hyb, UInt8.toNat_sub_of_le _ _ (by rw [UInt8.le_iff_toNat_le]; have := (bs.data[bs.size - 1]'hls).toNat_lt; simp; omega)]
                  have := (bs.data[bs.size - 1]'hls).toNat_lt
                  simp; omega
                have hcv : (convert 85 9 (.slice (some ⟨w3.heap.size, 0, none⟩) 1 1)).run Tryz.prog (w3.alloc (.cells #[.int .u8 (((255 : Int) - (bs[bs.size - 1].toNat : Int)) % 256)] 5)).drew = .ok (.string ⟨#[yb]⟩) (w3.alloc (.cells #[.int .u8 (((255 : Int) - (bs[bs.size - 1].toNat : Int)) % 256)] 5)).drew := by
                  rw [hy]
                  exact run_convert_bytes_back (P := Tryz.prog) _ 85 9 5 ⟨w3.heap.size, 0, none⟩ 1 [yb] Tryz.underlying85 Tryz.underlying5 Tryz.underlying9 (fun j hj => by
                    obtain rfl : j = 0 := by simpa using hj
                    exact (Blk.new w3 5 #[.int .u8 (yb.toNat : Int)]).cell 0)
                have HFJ := Lib.hid (DM.flip_size bs)
                have hsz1 : (bs.extract 0 (bs.size - 1)).size = bs.size - 1 := by rw [ByteArray.size_extract]; omega
                have hsz2 : (⟨#[yb]⟩ : ByteArray).size = 1 := rfl
                have hadd : ∀ W : World, (Op.stringOp .add (bs.extract 0 (bs.size - 1)) ⟨#[yb]⟩).run Tryz.prog W = .ok (.string (bs.extract 0 (bs.size - 1) ++ ⟨#[yb]⟩)) W := fun W => run_string_add_sum W _ _ (by rw [hsz1, hsz2]; omega)
                have hno1 : ¬ 9223372036854775807 < bs.size - 1 + 1 := by omega
                have hno2 : ¬ 9223372036854775807 < bs.size := by omega
                have hno3 : ¬ (bs.extract 0 (bs.size - 1)).size + (⟨#[yb]⟩ : ByteArray).size > 9223372036854775807 := by rw [hsz1, hsz2]; omega
                have hfj := flip_join bs hb0
                have hyb2 : 255 - bs.data[bs.size - 1]'(by show bs.size - 1 < bs.size; omega) = yb := hyb.symm
                rw [hyb2] at hfj
                have HFJ2 := Lib.hid hfj
                clear hfj hyb hyb2 hy hsz1 hsz2
                go_wp2_with fail
                have hwr : IntKind.i64.wrap ((bs.size : Int) - 1) = (bs.size : Int) - 1 := IntWalk.i64_in _ (by omega)
                try clear x0
                try clear x1
                try clear x2
                try clear hcur
                try clear hcs
                try clear hgB
                try clear hi
                try clear hq0
                try clear hflI
                try clear hmI
                try clear hsz
                try clear hfl2
                try clear hpwf
                try clear hcc
                try clear hc3
                try clear hc
                try clear c1
                try clear hk2
                try clear hF
                try clear TF
                try clear hlb
                try clear hpl
                try clear hcb
                try clear hbI
                try clear hb0
                try clear hk1
                try clear hm0
                try clear hmp
                try clear ht2
                go_region
                all_goals
                  go_wp2_with fail
                  go_meet
                  exact ⟨k + 2, DM.flip bs, by go_num, by rw [← HFJ2.out], Nat.le_refl _, by rw [HTE.out, if_pos HM0.out, if_pos (by rw [← HP2.out]; exact HO.out)], HFJ.out, ((Touch.refl [] w3).alloc _).drew_⟩
              · have ht2 : (p2.tmod 2 == 0) = true := by
                  have : p2.tmod 2 = 0 := Int.tmod_eq_zero_of_dvd (Int.dvd_of_emod_eq_zero (by omega))
                  rw [this]; rfl
                have HO := Lib.hid hodd
                clear hodd
                go_wp2_with fail
                go_meet
                exact ⟨k + 2, bs, by go_num, rfl, by omega, by rw [HTE.out, if_pos HM0.out, if_neg (by rw [← HP2.out]; exact HO.out)], rfl, Touch.refl _ _⟩
            · have hkI : ¬ (k : Int) + 1 < (ps.length : Int) := by omega
              go_wp2_with fail
              go_meet
              exact ⟨k + 2, bs, by go_num, rfl, by omega, by rw [HTE.out, if_pos HM0.out, if_neg (by rw [List.getElem?_eq_none (by omega)]; decide)], rfl, Touch.refl _ _⟩
        case rest =>
          obtain ⟨k', nb, rfl, rfl, hk', hte, hnz, T4⟩ := hcut
          obtain ⟨w4, rfl⟩ : ∃ x, x = wc := ⟨_, rfl⟩
          have T34 : Touch [] wr w4 := TF.trans T4 (by simp)
          have h4 := HCR.out.ref.touch T34 (by simp) (by simp)
          have d1 : w4.cell? ⟨b, 1, none⟩ = some (.slice (some ⟨g, 0, none⟩) d.fl.length cap) := h4.c1
          have hcur4 := T34.blk hcur (by simp)
          obtain ⟨o1, ho1⟩ : ∃ o1, w4.cell? ⟨g, i * 3 + 1, none⟩ = some o1 := ⟨_, (hcur4.cell _).trans (Array.getElem?_eq_getElem (by omega))⟩
          obtain ⟨o2, ho2⟩ : ∃ o2, (w4.setCell ⟨g, i * 3 + 1, none⟩ (.string nb)).cell? ⟨g, i * 3 + 2, none⟩ = some o2 := ⟨_, ((hcur4.set_ (i * 3 + 1) (.string nb)).cell _).trans (Array.getElem?_eq_getElem (by simp; omega))⟩
          have fz1 := hcur4.frozen (i * 3 + 1)
          have fz2 := (hcur4.set_ (i * 3 + 1) (.string nb)).frozen (i * 3 + 2)
          have hgb : b ≠ g := by
            obtain ⟨_, _, hbb, _⟩ := h4.blk
            exact hbb.ne_type hcur4 (by decide)
          have d2 : (w4.setCell ⟨g, i * 3 + 1, none⟩ (.string nb)).cell? ⟨b, 1, none⟩ = some (.slice (some ⟨g, 0, none⟩) d.fl.length cap) := by
            obtain ⟨_, _, hbb, _⟩ := h4.blk
            exact (hbb.far (p := ⟨g, i * 3 + 1, none⟩) hgb _).cell 1
          have H4 := Lib.hid h4
          have HTE2 := Lib.hid hte
          have HNZ := Lib.hid hnz
          have hnzI : (nb.size : Int) ≤ 1099511627776 := by omega
          clear h4 hte hnz hcur4
          go_wp2_with fail
          refine ⟨⟨i + 1, k', by omega, rfl, by go_num, ?_⟩, by simp [intOf]; omega⟩
          have h4 := H4.out
          have hte : DM.tear d.fl[i].2 (DM.picksL (d.fl.take i) ps) = ((nb, nb.size), ps.drop k') := by rw [← HF.out, HCR.out.picks, HTE2.out, HNZ.out]
          have hln := DM.length_half d.fl ps i
          have hfiles := h4.files
          simp only at hfiles
          rw [hln] at hfiles
          have hset := ownsRow_set hln.symm hfiles i hlt nb nb.size
          rw [DM.half_at d.fl ps i hlt] at hset
          have hhs : (DM.half d.fl ps i).set i (d.fl[i].1, (nb, nb.size)) = DM.half d.fl ps (i + 1) := by
            rw [← half_set H.out.fit.sorted ps i hlt, hte]
          rw [hhs] at hset
          obtain ⟨armed, left, hbb, hll⟩ := h4.blk
          have TS : Touch [g] w4 ((w4.setCell ⟨g, i * 3 + 1, none⟩ (.string nb)).setCell ⟨g, i * 3 + 2, none⟩ (.int .i64 (nb.size : Int))) := ((Touch.refl _ _).setCell _ _ (.inl (by simp))).setCell _ _ (.inl (by simp))
          refine ⟨⟨⟨armed, left, TS.blk hbb (by simpa using hgb), hll⟩, h4.room, h4.done, ?_, H.out.fit.half ps (i + 1)⟩, ?_, by omega, (HCR.out.T.trans T34 (by simp)).trans TS (fun z hz => .inl (by simp at hz; subst hz; simp [Value.ownBlock]))⟩
          · simp only
            rw [DM.length_half]
            exact hset
          · rw [DM.picks_succ d.fl ps i hlt, hte]
    · have hie : i = d.fl.length := by omega
      subst hie
      have hd9 := hcr.ref
      rw [DM.half_all] at hd9
      obtain ⟨armed, left, hbb, hll⟩ := hd9.blk
      have c2 : wr.cell? ⟨b, 2, none⟩ = some (.bool d.off) := hbb.cell 2
      have c3 : (wr.setCell ⟨b, 2, none⟩ (.bool false)).cell? ⟨b, 3, none⟩ = some (.bool armed) := (hbb.set_ 2 (.bool false)).cell 3
      have f2 := hbb.frozen 2
      have f3 := (hbb.set_ 2 (.bool false)).frozen 3
      have HCR := Lib.hid hcr
      have HD9 := Lib.hid hd9
      have HL := Lib.hid hll
      clear hcr hd9 hll
      go_wp2_with fail
      go_end0
      have ht : Touch [b] wr ((wr.setCell ⟨b, 2, none⟩ (.bool false)).setCell ⟨b, 3, none⟩ (.bool false)) := ((Touch.refl _ _).setCell _ _ (.inl (by simp))).setCell _ _ (.inl (by simp))
      refine ⟨rfl, HD9.out.own (d' := DM.crash d ps) ht ⟨false, left, (hbb.set_ 2 _).set_ 3 _, .inl ⟨rfl, rfl, ?_⟩⟩ H.out.room H.out.done rfl (Nat.le_refl _), HCR.out.T.trans ht (fun z hz => .inl (by simp at hz; subst hz; simp))⟩
      rcases HL.out with ⟨_, _, h1, h2⟩ | ⟨_, h1, h2, _⟩
      · exact ⟨h1, h2⟩
      · exact ⟨by omega, h2⟩
end Go.Proofs.YtmglkhnojimnlaaGreat

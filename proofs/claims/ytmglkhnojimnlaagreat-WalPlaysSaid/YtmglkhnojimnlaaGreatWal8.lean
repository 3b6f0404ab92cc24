/- Package wal: Sync; Rewrite's steps. -/
import Derived.Test.YtmglkhnojimnlaaGreatWal7
namespace Go.Proofs.YtmglkhnojimnlaaGreat
open Go.RowKit Go.Maps

theorem WalAt.setFirm {w : World} {S D : List Nat} {sv : Value} {g b n : Nat} {x : LM.L} (h : WalAt w S D sv g b n x) (k : Nat) (hk : k ≤ 137438953472) :
    WalAt (w.setCell ⟨g, 2, none⟩ (.int .i64 (k : Int))) S D sv g b n { x with firm := k } ∧ Touch [g] w (w.setCell ⟨g, 2, none⟩ (.int .i64 (k : Int))) := by
  have ht : Touch [g] w (w.setCell ⟨g, 2, none⟩ (.int .i64 (k : Int))) := (Touch.refl _ _).setCell _ _ (.inl (by simp))
  exact ⟨⟨h.foot, h.disk.touch ht (fun k hk hm => h.g_disk (by simp at hm; rwa [← hm])), h.blk.set_ 2 _, row_far h.row ht (fun k hk hm => h.g_row (by simp at hm; subst hm; simp [hk])), hk, h.small⟩, ht⟩
theorem WalAt.turned {w : World} {S D : List Nat} {sv : Value} {g b n : Nat} {x : LM.L} (h : WalAt w S D sv g b n x) {W W' : World} (T : Touch [] w W) {D' : List Nat} {m : Nat} {d : DM.D} (hd : DiskF W' D' b m d) (ht : Touch D W W') (hf : Fresh W D D') :
    WalAt W' (g :: (D' ++ sv.ownBlock.toList)) D' sv g b m { x with d := d } ∧ Touch S w W' ∧ Fresh w S (g :: (D' ++ sv.ownBlock.toList)) := by
  refine ⟨(h.quiet T).turn hd ht, (T.mono (S' := S) (by simp)).trans ht (fun k hk => .inl (by rw [h.foot]; simp [hk])), fun k hk => ?_⟩
  rw [h.foot]
  rcases List.mem_cons.1 hk with rfl | hk
  · exact .inl (by simp)
  · rcases List.mem_append.1 hk with hk | hk
    · rcases hf k hk with h1 | h1
      · exact .inl (by simp [h1])
      · exact .inr (Nat.le_trans T.size h1)
    · exact .inl (by simp [hk])
set_option maxRecDepth 10000 in
set_option maxHeartbeats 1600000 in
theorem wsync_any {w : World} {S D : List Nat} {sv : Value} {g b n : Nat} {x : LM.L} (h : WalAt w S D sv g b n x) (hn : n < 1099511627775) :
    Calls Tryz.prog 20 #[.pointer (some ⟨g, 0, none⟩)] w (WEnds S g b (n + 2) w (LM.sync x)) := by
  have hrd := wready_any h
  have HRD := Lib.hid hrd
  have hE : ∀ W, Touch [] w W → ∀ k, WEnds S g b (n + 2) w (k, x) (.returned (.int .i64 k)) W := fun W T k => ⟨rfl, WGood.same h T⟩
  have HE := Lib.hid hE
  have hle := h.firm
  have hlen := h.len
  have hlb : (x.l.length : Int) ≤ 137438953472 := by omega
  have hlb2 : (x.firm : Int) ≤ 137438953472 := by omega
  have hwl := fun W (T : Touch [] w W) => wlen_any (h.quiet T)
  have c2 := h.c2
  clear hrd hE
  by_cases hb : x.broken = true
  · have he : LM.sync x = (13, x) := by unfold LM.sync; rw [if_pos hb]
    rw [he]
    rw [if_pos hb] at HRD
    clear he hb h hwl c2 hlen hle
    go_enter Tryz.func20, Tryz.ntmps20
    go_wp2_with fail
    refine HRD.out.mono ?_
    rintro e w' ⟨rfl, rfl⟩
    go_wp2_with fail
    go_quiet (fail)
    go_wp2_with fail
    go_ret
    exact HE.out _ (Touch.drewN [] _ _) 13
  · have hb' : x.broken = false := by simpa using hb
    rw [if_neg hb] at HRD
    have HWL := Lib.hid hwl
    by_cases h0 : x.firm = x.l.length
    · have he : LM.sync x = (0, x) := by unfold LM.sync; rw [if_neg hb, if_pos h0]
      rw [he]
      rw [h0] at c2
      clear he hb h hlen hle h0 hwl hb' hlb2
      go_enter Tryz.func20, Tryz.ntmps20
      go_wp2_with fail
      refine HRD.out.mono ?_
      rintro e w' ⟨rfl, rfl⟩
      go_wp2_with fail
      go_quiet ((go_at_call 12; exact Calls.quiet_of_same (HWL.out _ (Touch.drewN [] _ _))))
      go_wp2_with fail
      go_ret
      exact HE.out _ (Touch.drewN [] _ _) 0
    · have hne : ((x.firm : Int) == (x.l.length : Int)) = false := by rw [beq_eq_false_iff_ne]; omega
      have hne2 : (x.firm == x.l.length) = false := by rw [beq_eq_false_iff_ne]; omega
      obtain ⟨r, hr⟩ : ∃ r, r = DM.sync x.d LM.walN := ⟨_, rfl⟩
      have he : LM.sync x = if r.1 = 0 then (0, { (LM.said x r).2 with firm := x.l.length }) else LM.said x r := by
        unfold LM.sync
        rw [if_neg hb, if_neg h0, ← hr]
        rfl
      have hda : ∀ W, Touch [] w W → Calls Tryz.prog 47 #[.pointer (some ⟨b, 0, none⟩), .string walS] W (DEnds D b n W r) := fun W T => by
        rw [hr]
        exact dsync (h.quiet T).disk hn walS (by decide)
      have hdt := fun (W W' : World) (T : Touch [] w W) (D' : List Nat) (hd : DiskF W' D' b (n + 2) r.2) (ht : Touch D W W') (hf : Fresh W D D') => h.turned T hd ht hf
      have c0 := h.c0
      have HDA := Lib.hid hda
      have HDT := Lib.hid hdt
      have HEQ := Lib.hid he
      clear he hb h hda hdt hr h0 HE hlen hle hwl hb'
      go_enter Tryz.func20, Tryz.ntmps20
      go_wp2_with fail
      refine HRD.out.mono ?_
      rintro e w' ⟨rfl, rfl⟩
      go_wp2_with fail
      go_quiet ((go_at_call 12; exact Calls.quiet_of_same (HWL.out _ (Touch.drewN [] _ _))))
      have T1 := Touch.drewN [] w' nq
      have c0' := T1.cell c0 (by simp)
      go_wp2_with fail
      refine (HDA.out _ T1).mono ?_
      rintro e w2 ⟨rfl, D', hd2, ht2, hf2⟩
      obtain ⟨hw2, tt2, ff2⟩ := HDT.out _ w2 T1 D' hd2 ht2 hf2
      have HW2 := Lib.hid hw2
      have HT2 := Lib.hid tt2
      have HF2 := Lib.hid ff2
      clear c0 hd2 ht2 hf2 hw2 tt2 ff2 T1 c0' c2
      go_wp2_with fail
      refine (wsaid_any HW2.out r.1).mono ?_
      rintro e w3 ⟨rfl, hw3, t3⟩
      have t3' := HT2.out.trans t3 (fun k hk => by simp at hk; subst hk; exact HF2.out _ (by simp))
      have HW3 := Lib.hid hw3
      have HT3 := Lib.hid t3'
      by_cases hr0 : r.1 = 0
      · have hwl3 := wlen_any hw3
        have HL3 := Lib.hid hwl3
        have hst := hw3.setFirm x.l.length hw3.len
        have HST := Lib.hid hst
        have z2 := hw3.c2
        have z2f := hw3.blk.frozen 2
        obtain ⟨rv, hrv⟩ : ∃ rv, rv = r.1 := ⟨_, rfl⟩
        rw [← hrv] at hr0 ⊢
        subst hr0
        have HRV := Lib.hid hrv
        clear hst hwl3 hw3 t3 t3' hrv
        go_wp2_with fail
        refine HL3.out.mono ?_
        rintro e w4 ⟨rfl, rfl⟩
        go_wp2_with fail
        go_ret
        rw [HEQ.out, if_pos HRV.out.symm]
        exact ⟨rfl, _, D', sv, HST.out.1, HT3.out.trans HST.out.2 (fun k hk => by simp at hk; subst hk; exact HF2.out _ (by simp)), HF2.out⟩
      · have hr0' : (r.1 == 0) = false := by simpa using hr0
        have HR0 := Lib.hid hr0
        clear hr0 hw3 t3 t3'
        go_wp2_with fail
        go_ret
        rw [HEQ.out, if_neg HR0.out]
        exact ⟨rfl, _, D', sv, HW3.out, HT3.out, HF2.out⟩
end Go.Proofs.YtmglkhnojimnlaaGreat

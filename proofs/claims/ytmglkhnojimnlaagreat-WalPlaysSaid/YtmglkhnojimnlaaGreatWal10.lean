/- Package wal: Rewrite. -/
import Derived.Test.YtmglkhnojimnlaaGreatWal9
import Derived.Deep.DeepCutAuto
namespace Go.Proofs.YtmglkhnojimnlaaGreat
open Go.RowKit Go.Maps

theorem LM.clear_used (d : DM.D) (hs : DM.Sorted d.fl) : DM.used (LM.clear d).2.fl ≤ DM.used d.fl := by
  unfold LM.clear
  split
  · unfold DM.remove
    have hu := DM.used_del d.fl LM.newN hs
    rcases LM.thn_fl d (DM.may1 d true LM.newN) (fun l => DM.del l LM.newN) with ⟨_, h2, _⟩ | ⟨_, h2⟩
    · rw [h2]; omega
    · rw [h2]; exact Nat.le_refl _
  · exact Nat.le_refl _
/-- the sizes are struck -/
theorem WalAt.strike {w : World} {S D : List Nat} {sv : Value} {g b n : Nat} {x : LM.L} (h : WalAt w S D sv g b n x) :
    WalAt (w.setCell ⟨g, 1, none⟩ (.slice none 0 0)) (g :: (D ++ (Value.slice none 0 0).ownBlock.toList)) D (.slice none 0 0) g b n { x with l := [] } ∧ Touch [g] w (w.setCell ⟨g, 1, none⟩ (.slice none 0 0)) := by
  have ht : Touch [g] w (w.setCell ⟨g, 1, none⟩ (.slice none 0 0)) := (Touch.refl _ _).setCell _ _ (.inl (by simp))
  exact ⟨⟨rfl, h.disk.touch ht (fun k hk hm => h.g_disk (by simp at hm; rwa [← hm])), h.blk.set_ 1 _, World.ownsRow_nil _ _ _ _, h.firm, by simp [WM.all]⟩, ht⟩
def RwAfter (w : World) (S : List Nat) (sv : Value) (g b n : Nat) (x : LM.L) (r : Int × DM.D) (wx : World) : Prop :=
  ∃ D', WalAt wx (g :: (D' ++ sv.ownBlock.toList)) D' sv g b (n + 8) { x with d := r.2, broken := x.broken || (r.1 != 0 && r.1 != 15) } ∧ Touch S w wx ∧ Fresh w S (g :: (D' ++ sv.ownBlock.toList)) ∧ Blk wx w.heap.size 29 #[.pointer (some ⟨g, 0, none⟩)]
set_option maxRecDepth 10000 in
set_option maxHeartbeats 3200000 in
theorem wrewrite_any {w : World} {S D : List Nat} {sv : Value} {g b n : Nat} {x : LM.L} (h : WalAt w S D sv g b n x) (hn : n < 1099511627700) (a : Option Addr) (cap : Nat) (ss : List ByteArray) (hT : TextsB w a ss)
    (hf : WM.Fits (ss.map bs)) (hsm : (WM.all (ss.map bs)).length ≤ 1099511627776) (hu : DM.used x.d.fl + (WM.all (ss.map bs)).length ≤ 1099511627776) :
    Calls Tryz.prog 22 #[.pointer (some ⟨g, 0, none⟩), .slice a ss.length cap] w (WEnds S g b (n + 8) w (LM.rewrite x (ss.map bs))) := by
  have hrd := fun W (T : Touch [] w W) => wready_any (h.quiet T)
  have HRD := Lib.hid hrd
  have hE : ∀ W, Touch [] w W → ∀ k, WEnds S g b (n + 8) w (k, x) (.returned (.int .i64 k)) W := fun W T k => ⟨rfl, WGood.same (n := n + 6) (h.mono (by omega)) T⟩
  have HE := Lib.hid hE
  have hln : ss.length ≤ 137438953472 := by have := lens_le (ss.map bs); rw [List.length_map] at this; omega
  have hlb : (ss.length : Int) ≤ 137438953472 := by omega
  have hwh := fun W (T : Touch [] w W) => whole_any W a cap ss (hT.touch T).texts hf hsm
  have HWH := Lib.hid hwh
  obtain ⟨w1, hw1⟩ : ∃ w1, w1 = w.alloc (.cells #[.pointer (some ⟨g, 0, none⟩)] 29) := ⟨_, rfl⟩
  have T1 : Touch [] w w1 := hw1 ▸ (Touch.refl [] w).alloc _
  have hB1 : Blk w1 w.heap.size 29 #[.pointer (some ⟨g, 0, none⟩)] := hw1 ▸ Blk.new _ _ _
  have hglt := h.blk.lt
  clear hrd hE hwh hln
  by_cases hb : x.broken = true
  · have he : LM.rewrite x (ss.map bs) = (13, x) := by unfold LM.rewrite; rw [if_pos hb]
    rw [he]
    rw [if_pos hb] at HRD
    have c1 := hB1.cell 0
    have HW1 := Lib.hid hw1
    clear he hb h hT hf hsm hu hw1
    go_enter Tryz.func22, Tryz.ntmps22
    go_wp2_with fail
    rw [← HW1.out]
    refine (HRD.out _ T1).mono ?_
    rintro e w' ⟨rfl, rfl⟩
    go_wp2_with fail
    go_ret
    exact HE.out _ T1 13
  · have hb' : x.broken = false := by simpa using hb
    rw [if_neg hb] at HRD
    obtain ⟨m, hm⟩ : ∃ m, m = ss.map bs := ⟨_, rfl⟩
    obtain ⟨r, hr⟩ : ∃ r, r = LM.rewriteD x.d m := ⟨_, rfl⟩
    have he : LM.rewrite x m = if r.1 = 0 then (0, { (LM.said x r).2 with l := m, firm := m.length }) else LM.said x r := by
      unfold LM.rewrite
      rw [if_neg hb, ← hr]
      rfl
    have hso : DM.Sorted x.d.fl := by
      obtain ⟨mo, hd, _⟩ := h.disk
      exact hd.fit.sorted
    have hfo := h.foots
    -- the row of steps
    have hrow : ∀ W Bs Bf (cap : Nat), Touch [] w W → Blk W w.heap.size 29 #[.pointer (some ⟨g, 0, none⟩)] → Blk W Bs 9 #[.string (ofBs (WM.all m))] → Blk W Bf 51 (rwVs w.heap.size Bs) →
        Calls Tryz.prog 43 #[.slice (some ⟨Bf, 0, none⟩) 4 cap] W (RowEnd fun k W' => k = r.1 ∧ ∃ D', RwAt w W' S sv g b (n + 8) x r.2 w.heap.size Bs Bf (ofBs (WM.all m)) (rwVs w.heap.size Bs) D') := fun W Bs Bf cap T b1 b2 b3 => by
      rw [hr]
      refine rwRow_any (D := D) hn (by rw [hm]; exact hu) (LM.clear_used x.d hso) ⟨?_, T.mono (by simp), ?_, b1, b2, b3⟩ cap
      · have := h.quiet T; rw [h.foot] at this; exact this
      · rw [h.foot]; exact Fresh.refl _ _
    rw [← hm] at HWH ⊢
    have hml : m.length = ss.length := by rw [hm, List.length_map]
    have hsm' : (WM.all ([] ++ m)).length ≤ 1099511627776 := by rw [List.nil_append, hm]; exact hsm
    have HEQ := Lib.hid he
    have HROW := Lib.hid hrow
    have HFO := Lib.hid hfo
    have HTB := Lib.hid hT
    have HML := Lib.hid hml
    have HMM := Lib.hid hm
    have HSM := Lib.hid hsm'
    have HGL := Lib.hid hglt
    have HW1 := Lib.hid hw1
    have c1 := hB1.cell 0
    obtain ⟨txt, htxt⟩ : ∃ t, t = ofBs (WM.all m) := ⟨_, rfl⟩
    rw [← htxt] at HWH HROW
    clear he hb h hT hf hsm hu hb' hr hm hso hrow hml hsm' hfo htxt hglt hw1
    go_enter Tryz.func22, Tryz.ntmps22
    go_wp2_with fail
    rw [← HW1.out]
    refine (HRD.out _ T1).mono ?_
    rintro e w' ⟨rfl, rfl⟩
    go_wp2_with fail
    refine (HWH.out _ T1).mono ?_
    rintro e w2 ⟨rfl, T2⟩
    have b2 := T2.blk hB1 (by simp)
    have t2 := T1.trans T2 (by simp)
    obtain ⟨w3, hw3⟩ : ∃ w3, w3 = w2.alloc (.cells #[.string txt] 9) := ⟨_, rfl⟩
    have b3 : Blk w3 w.heap.size 29 #[.pointer (some ⟨g, 0, none⟩)] := hw3 ▸ b2.alloc _
    have s3 : Blk w3 w2.heap.size 9 #[.string txt] := hw3 ▸ Blk.new _ _ _
    have t3 : Touch [] w w3 := hw3 ▸ t2.alloc _
    have HW3 := Lib.hid hw3
    clear c1
    go_wp2_with fail
    rw [← hw3]
    clear hw3
    have c3 := b3.cell 0
    go_cut [5] (fun s5 wx => s5 = .int .i64 r.1 ∧ RwAfter w S sv g b n x r wx)
    case first =>
      obtain ⟨w4, hw4⟩ : ∃ w4, w4 = w3.drew.alloc (.cells (rwVs w.heap.size w2.heap.size) 51) := ⟨_, rfl⟩
      have b4 : Blk w4 w.heap.size 29 #[.pointer (some ⟨g, 0, none⟩)] := hw4 ▸ (b3.drew).alloc _
      have s4 : Blk w4 w2.heap.size 9 #[.string txt] := hw4 ▸ (s3.drew).alloc _
      have f4 : Blk w4 w3.heap.size 51 (rwVs w.heap.size w2.heap.size) := hw4 ▸ Blk.new w3.drew _ _
      have t4 : Touch [] w w4 := hw4 ▸ (t3.drew_).alloc _
      have hrow := HROW.out w4 w2.heap.size w3.heap.size 4 t4 b4 s4 f4
      have c4 := b4.cell 0
      rw [hw4] at c4 hrow
      unfold rwVs at c4 hrow
      have HRO := Lib.hid hrow
      clear hrow b4 s4 f4 t4 hw4
      go_region_held3 (fun W => W.cell? ⟨w.heap.size, 0, none⟩ = some (.pointer (some ⟨g, 0, none⟩))) (first | exact c3 | exact c4 | exact c5 | exact c6)
        (first
          | (go_at_call 43; refine HRO.out.mono ?_; rintro e w5 ⟨k, rfl, rfl, D', hr5⟩; have c5 := hr5.bw.cell 0; have HR5 := Lib.hid hr5; clear hr5)
          | (go_at_call 51; refine (wsaid_any HR5.out.wal r.1).mono ?_; rintro e w6 ⟨rfl, hw6, t6⟩; have b6 := t6.blk HR5.out.bw (by have := HGL.out; simp; omega); have c6 := b6.cell 0))
      all_goals
        go_wp2_with fail
        go_meet
        exact ⟨rfl, D', hw6, HR5.out.touch.trans t6 (fun k hk => by simp at hk; subst hk; exact HR5.out.fresh _ (by simp)), HR5.out.fresh, b6⟩
    case rest =>
      obtain ⟨rfl, D', hw6, tt6, ff6, b6⟩ := hcut
      obtain ⟨w6, rfl⟩ : ∃ x, x = wc := ⟨_, rfl⟩
      have c6 := b6.cell 0
      clear c3 b3 s3 t3
      have HW6 := Lib.hid hw6
      have HT6 := Lib.hid tt6
      have HF6 := Lib.hid ff6
      by_cases hr0 : r.1 = 0
      · obtain ⟨hw7, t7⟩ := hw6.strike
        obtain ⟨w7, hw7e⟩ : ∃ w7, w7 = w6.setCell ⟨g, 1, none⟩ (.slice none 0 0) := ⟨_, rfl⟩
        rw [← hw7e] at hw7 t7
        have tt7 := tt6.trans t7 (fun k hk => by simp at hk; subst hk; exact HF6.out _ (by simp))
        have ff7 : Fresh w S (g :: (D' ++ (Value.slice none 0 0).ownBlock.toList)) := fun k hk => by
          rcases List.mem_cons.1 hk with rfl | hk
          · exact HF6.out _ (by simp)
          · simp [Value.ownBlock] at hk
            exact HF6.out k (by simp [hk])
        have hk := KeepBut.of HFO.out tt7
        have hh := have_any hw7 a cap ss (HTB.out.keep hk (by decide)) (by rw [← HMM.out]; exact HSM.out)
        have b7 := t7.blk b6 (by have := HGL.out; simp; omega)
        have HB7 := Lib.hid b7
        have HW7 := Lib.hid hw7
        have HT7 := Lib.hid tt7
        have HF7 := Lib.hid ff7
        have HE7 := Lib.hid hw7e
        have HH := Lib.hid hh
        have z1 := hw6.c1
        have z1f := hw6.blk.frozen 1
        obtain ⟨rv, hrv⟩ : ∃ rv, rv = r.1 := ⟨_, rfl⟩
        rw [← hrv] at hr0 ⊢
        subst hr0
        have HRV := Lib.hid hrv
        have k7 := b7.cell 0
        rw [hw7e] at k7
        clear hk hh hrv hw7 t7 tt7 ff7 b7 hw7e tt6 hw6 ff6
        go_wp2_with fail
        rw [← HE7.out]
        refine HH.out.mono ?_
        rintro e w8 ⟨rfl, S8, D8, sv8, hw8, t8, f8⟩
        have b8 := t8.blk HB7.out (HW7.out.foots.ne HB7.out (by decide))
        have c8 := b8.cell 0
        have hl8 := fun W (T : Touch [] w8 W) => wlen_any (hw8.quiet T)
        have hst := hw8.setFirm m.length (by have := HML.out; omega)
        have hlen8 : ([] ++ ss.map bs : List WM.Bs).length = ss.length := by simp
        simp only [hlen8] at hl8
        rw [HML.out] at hst
        have z2 := hw8.c2
        have z2f := hw8.blk.frozen 2
        have HL8 := Lib.hid hl8
        have HST := Lib.hid hst
        have HT8 := Lib.hid (HT7.out.trans t8 HF7.out)
        have HF8 := Lib.hid (HF7.out.trans f8 HT7.out.size)
        have hS8 := hw8.foot
        have HS8 := Lib.hid hS8
        have c9 : ((w8.drewN 1).setCell ⟨g, 2, none⟩ (.int .i64 (ss.length : Int))).cell? ⟨w.heap.size, 0, none⟩ = some (.pointer (some ⟨g, 0, none⟩)) := ((b8.drewN 1).far (by have := HGL.out; simp; omega) _).cell 0
        clear hl8 hst hw8 t8 f8 hlen8 k7 z1 z1f hS8
        go_wp2_with fail
        go_region_held3 (fun W => W.cell? ⟨w.heap.size, 0, none⟩ = some (.pointer (some ⟨g, 0, none⟩))) (first | exact c8 | exact c9)
          (first | (go_at_call 12; refine (HL8.out _ (Touch.drewN [] w8 1)).mono ?_; rintro e w9 ⟨rfl, rfl⟩))
        all_goals
          go_wp2_with fail
          go_ret
          rw [HEQ.out, if_pos HRV.out.symm]
          refine ⟨rfl, S8, D8, sv8, ?_, ?_, HF8.out⟩
          · have := HST.out.1.quiet (Touch.drewN [] _ 1)
            rw [HML.out, HMM.out]
            exact this
          · exact (HT8.out.trans HST.out.2 (fun k hk => by simp at hk; subst hk; exact HF8.out _ (by rw [HS8.out]; simp))).drew_
      · have hr0' : (r.1 == 0) = false := by simpa using hr0
        have HR0 := Lib.hid hr0
        clear hr0 tt6 hw6 ff6
        go_wp2_with fail
        go_ret
        rw [HEQ.out, if_neg HR0.out]
        exact ⟨rfl, _, D', sv, HW6.out, HT6.out, HF6.out⟩
end Go.Proofs.YtmglkhnojimnlaaGreat

/- Package record: cut. -/
import Derived.Test.YtibbfihnhlgkeaaGreatRecC
namespace Go.Proofs.YtibbfihnhlgkeaaGreat
open Go.RowKit Go.Maps Go.Shelf
open NM (Bs bs ofBs)

set_option maxRecDepth 10000 in
set_option maxHeartbeats 1000000 in
theorem cut_any (w : World) (a n b : Nat) (ha : a ≤ 2) (hn : n ≤ 2) (hb : b ≤ 20) (d : ByteArray) (hd : d.size ≤ 1099511627776) :
    Calls Tryz.prog 94 #[.agg #[.int .i64 (a : Int), .int .i64 (n : Int), .int .i64 (b : Int)], .string d] w fun e w' => ∃ s0 s1 ad l c, e = .returned (.tuple #[.agg #[.string s0, .string s1, .slice ad l c], .bool (NM.cut a n b (bs d))]) ∧ Touch [] w w' := by
  obtain ⟨r, hr⟩ : ∃ r, r = NM.cut a n b (bs d) := ⟨_, rfl⟩
  have hcut : NM.cut a n b (bs d) = if (bs d).length < a then false else match NM.names n ((bs d).drop a) with | none => false | some r => decide (r.length = b) := rfl
  rw [← hr, NM.bs_length] at hcut
  rw [← hr]
  have HR := Lib.hid hcut
  clear hcut hr
  obtain ⟨N, hN⟩ : ∃ N, N = w.heap.size := ⟨_, rfl⟩
  have hB0 : Blk (w.alloc (.cells #[.int .i64 (a : Int), .int .i64 (n : Int), .int .i64 (b : Int)] 134)) N 134 #[.int .i64 (a : Int), .int .i64 (n : Int), .int .i64 (b : Int)] := Blk.new' _ _ _ hN
  have HN := Lib.hid (And.intro hN (And.intro ha (And.intro hn (And.intro hb hd))))
  by_cases hlt : d.size < a
  · have hr : r = false := by rw [HR.out, if_pos hlt]
    have HR2 := Lib.hid hr
    have hltI : (d.size : Int) < (a : Int) := by omega
    clear hN hr hlt ha hn hb hd
    go_enter Tryz.func94, Tryz.ntmps94
    go_wp2_with fail
    go_returns
    exact ⟨_, _, _, _, _, by rw [HR2.out], ((Touch.refl [] w).alloc _).alloc _⟩
  · have hge : (a : Int) ≤ (d.size : Int) := by omega
    have hgeN : a ≤ d.size := by omega
    clear hN ha hn hb hd hlt
    go_enter Tryz.func94, Tryz.ntmps94
    go_wp2_with fail
    have hdf : decide (d.size < a) = false := decide_eq_false (by omega)
    try rw [hdf]
    clear hdf
    obtain ⟨s0, hs0⟩ : ∃ s0, s0 = d.extract a d.size := ⟨_, rfl⟩
    have hs0z : s0.size ≤ d.size := by rw [hs0, ByteArray.size_extract]; omega
    have hr : ∀ o, NM.names n (bs s0) = o → r = (match o with | none => false | some q => decide (q.length = b)) := fun o ho => by
      rw [hs0, NM.bs_extract, List.take_of_length_le (by rw [List.length_drop, NM.bs_length]; omega)] at ho
      rw [HR.out, if_neg (by omega), ho]
    obtain ⟨ah, hah⟩ : ∃ ah, ah = d.extract 0 a := ⟨_, rfl⟩
    rw [← hs0, ← hah]
    have HR2 := Lib.hid hr
    clear hr hs0 hah
    obtain ⟨w1, hw1⟩ : ∃ w1, w1 = ((((w.alloc (.cells #[.int .i64 (a : Int), .int .i64 (n : Int), .int .i64 (b : Int)] 134)).alloc (.cells #[.string ⟨#[]⟩, .string ⟨#[]⟩, .slice none 0 0] 137)).alloc (.cells #[.string ah, .string ⟨#[]⟩, .slice none 0 0] 137)).alloc (.cells #[.string s0] 9)) := ⟨_, rfl⟩
    have b0 : Blk w1 w.heap.size 134 #[.int .i64 (a : Int), .int .i64 (n : Int), .int .i64 (b : Int)] := by rw [hw1]; exact (((Blk.new _ _ _).alloc _).alloc _).alloc _
    have b1 : Blk w1 (w.heap.size + 1) 137 #[.string ⟨#[]⟩, .string ⟨#[]⟩, .slice none 0 0] := by rw [hw1]; exact ((Blk.new' _ _ _ (by simp)).alloc _).alloc _
    have b2 : Blk w1 (w.heap.size + 1 + 1) 137 #[.string ah, .string ⟨#[]⟩, .slice none 0 0] := by rw [hw1]; exact (Blk.new' _ _ _ (by simp)).alloc _
    have b3 : Blk w1 (w.heap.size + 1 + 1 + 1) 9 #[.string s0] := by rw [hw1]; exact Blk.new' _ _ _ (by simp)
    have hz : w1.heap.size = w.heap.size + 4 := by rw [hw1]; simp
    have T1 : Touch [] w w1 := by rw [hw1]; exact ((((Touch.refl [] w).alloc _).alloc _).alloc _).alloc _
    rw [← hw1]
    have HW := Lib.hid (And.intro hz hs0z)
    clear hw1 hz hge hgeN hs0z
    go_loopw [27] (fun u wr => ∃ (i : Nat) (rest : ByteArray) (pre : List ByteArray) (v : Value), u = .int .i64 (i : Int) ∧ i ≤ n ∧ pre.length = i ∧ Blk wr w.heap.size 134 #[.int .i64 (a : Int), .int .i64 (n : Int), .int .i64 (b : Int)] ∧
      Blk wr (w.heap.size + 1) 137 #[.string ⟨#[]⟩, .string ⟨#[]⟩, .slice none 0 0] ∧ Blk wr (w.heap.size + 1 + 1) 137 #[.string ah, .string ⟨#[]⟩, v] ∧ Blk wr (w.heap.size + 1 + 1 + 1) 9 #[.string rest] ∧
      TRow wr (w.heap.size + 4) v pre ∧ Touch [] w wr ∧ w.heap.size + 4 ≤ wr.heap.size ∧ rest.size ≤ d.size ∧ NM.names n (bs s0) = NM.names (n - i) (bs rest)) (fun u _ => n - (intOf u).toNat)
    case atStart => exact ⟨0, s0, [], _, rfl, Nat.zero_le _, rfl, b0, b1, b2, b3, TRow.nil _ _, T1, Nat.le_of_eq HW.out.1.symm, HW.out.2, by simp⟩
    case round =>
      obtain ⟨i, rest, pre, v, rfl, hin, hpl, r0, r1, r2, r3, hR, hT, hzz, hrz, hnm⟩ := hrel
      obtain ⟨wo, rfl⟩ : ∃ wo, wo = wr := ⟨_, rfl⟩
      have H := Lib.hid (And.intro r0 (And.intro r1 (And.intro r2 (And.intro r3 (And.intro hR (And.intro hT hnm))))))
      by_cases hlt : i < n
      · have hTK := Lib.hid (take_any wo (w.heap.size + 1 + 1 + 1) (w.heap.size + 1 + 1) (w.heap.size + 4) rest ah ⟨#[]⟩ v pre (by have := HN.out.2.2.2.2; omega) (by have := HN.out.2.2.1; omega) hzz r3 r2 hR (by omega))
        have hltI : (i : Int) < (n : Int) := by omega
        have hq : n - (i + 1) < n - i := by omega
        have HQ := Lib.hid (And.intro hq (And.intro hzz (And.intro hrz hpl)))
        have HWR := Lib.hid (show wrap64 ((i : Int) + 1) = (i : Int) + 1 from IntWalk.wrap64_in _ (by have := HN.out.2.2.1; omega))
        have HLT := Lib.hid hlt
        clear r0 r1 r2 r3 hR hT hnm hq hzz hrz hpl hin hlt b0 b1 b2 b3 T1
        go_wp2_with fail
        refine hTK.out.mono ?_
        rintro e w2 ⟨x, more, ok, rfl, hfi, h⟩
        have hst := names_step (n := n - i - 1) hfi
        rw [show n - i - 1 + 1 = n - i by have := HLT.out; omega] at hst
        have HST := Lib.hid hst
        clear hst
        rcases h with ⟨rfl, T2⟩ | ⟨rfl, q3, ⟨v', q2, q4⟩, T2⟩
        · have hr : r = false := HR2.out none (by rw [H.out.2.2.2.2.2.2, HST.out]; rfl)
          have HR3 := Lib.hid hr
          have r1 := T2.blk H.out.2.1 (by simp)
          have s1 := r1.set_ 0 (.string ⟨#[]⟩)
          have s2 := s1.set_ 1 (.string ⟨#[]⟩)
          have s3 := s2.set_ 2 (.slice none 0 0)
          have f0 := r1.frozen 0
          have f1 := r1.frozen 1
          have f2 := r1.frozen 2
          have k0 : w2.cell? ⟨w.heap.size + 1, 0, none⟩ = some (.string ⟨#[]⟩) := r1.cell 0
          have k1 : w2.cell? ⟨w.heap.size + 1, 1, none⟩ = some (.string ⟨#[]⟩) := r1.cell 1
          have k2 : w2.cell? ⟨w.heap.size + 1, 2, none⟩ = some (.slice none 0 0) := r1.cell 2
          have z0 : (w2.setCell ⟨w.heap.size + 1, 0, none⟩ (.string ⟨#[]⟩)).cell? ⟨w.heap.size + 1, 0, none⟩ = some (.string ⟨#[]⟩) := s1.cell 0
          have z1 : (w2.setCell ⟨w.heap.size + 1, 1, none⟩ (.string ⟨#[]⟩)).cell? ⟨w.heap.size + 1, 1, none⟩ = some (.string ⟨#[]⟩) := (r1.set_ 1 _).cell 1
          have z2 : (w2.setCell ⟨w.heap.size + 1, 2, none⟩ (.slice none 0 0)).cell? ⟨w.heap.size + 1, 2, none⟩ = some (.slice none 0 0) := (r1.set_ 2 _).cell 2
          have z3 : ((w2.setCell ⟨w.heap.size + 1, 0, none⟩ (.string ⟨#[]⟩)).setCell ⟨w.heap.size + 1, 1, none⟩ (.string ⟨#[]⟩)).cell? ⟨w.heap.size + 1, 1, none⟩ = some (.string ⟨#[]⟩) := s2.cell 1
          have z4 : (((w2.setCell ⟨w.heap.size + 1, 0, none⟩ (.string ⟨#[]⟩)).setCell ⟨w.heap.size + 1, 1, none⟩ (.string ⟨#[]⟩)).setCell ⟨w.heap.size + 1, 2, none⟩ (.slice none 0 0)).cell? ⟨w.heap.size + 1, 2, none⟩ = some (.slice none 0 0) := s3.cell 2
          have T3 := (((H.out.2.2.2.2.2.1.trans T2 (by simp)).setCell ⟨w.heap.size + 1, 0, none⟩ (.string ⟨#[]⟩) (.inr (by simp))).setCell ⟨w.heap.size + 1, 1, none⟩ (.string ⟨#[]⟩) (.inr (by simp))).setCell ⟨w.heap.size + 1, 2, none⟩ (.slice none 0 0) (.inr (by simp))
          have HT3 := Lib.hid T3
          clear hr T3 T2 hfi r1 s1 s2 s3
          go_wp2_with fail
          refine bodyPost_ret (by simp [results, Tryz.results94, go_sem, z0, z1, z2, z3, z4, k0, k1, k2]; try rfl) rfl ?_
          exact ⟨_, _, _, _, _, by rw [HR3.out], HT3.out⟩
        · have hmz : more.size ≤ d.size := by
            rcases hfi with ⟨_, _, h⟩ | ⟨h, _⟩
            · exact Nat.le_trans h HQ.out.2.2.1
            · cases h
          have T3 := H.out.2.2.2.2.2.1.trans T2 (by
            intro k hk
            right
            rcases List.mem_cons.1 hk with h | h
            · omega
            · rcases List.mem_cons.1 h with h | h
              · omega
              · have := (H.out.2.2.2.2.1.lt k (by simpa using h)).1; omega)
          have hne : ∀ g, g = w.heap.size ∨ g = w.heap.size + 1 → g ∉ (w.heap.size + 1 + 1 + 1) :: (w.heap.size + 1 + 1) :: v.ownBlock.toList := by
            intro g hg hk
            rcases List.mem_cons.1 hk with h | h
            · omega
            · rcases List.mem_cons.1 h with h | h
              · omega
              · have := (H.out.2.2.2.2.1.lt g (by simpa using h)).1; omega
          have p0 := T2.blk H.out.1 (hne _ (.inl rfl))
          have p1 := T2.blk H.out.2.1 (hne _ (.inr rfl))
          have hzz2 := Nat.le_trans HQ.out.2.1 T2.size
          have hl : (pre ++ [x]).length = i + 1 := by rw [List.length_append, HQ.out.2.2.2]; rfl
          have HF := Lib.hid (And.intro hmz (And.intro T3 (And.intro p0 (And.intro p1 (And.intro hzz2 (And.intro hl (And.intro q3 (And.intro q2 q4))))))))
          have hwr := HWR.out
          clear hmz T3 hne p0 p1 hzz2 hl q3 q2 q4 hfi T2
          go_wp2_with fail
          go_roundw
          case rel =>
            obtain ⟨h1, h2, h3, h4, h5, h6, h7, h8, h9⟩ := HF.out
            exact ⟨i + 1, more, pre ++ [x], v', by rw [hwr]; rfl, HLT.out, h6, h3, h4, h8, h7, h9, h2, h5, h1, by rw [H.out.2.2.2.2.2.2, HST.out]; rfl⟩
          case measure => exact lt_sub_of (by rw [hwr]; rfl) rfl HQ.out.1
      · have hgeI : (n : Int) ≤ (i : Int) := by omega
        have hii : n - i = 0 := by omega
        have hr := HR2.out _ (by rw [hnm, hii, NM.names])
        have hr2 : r = ((rest.size : Int) == (b : Int)) := by
          rw [hr]
          show decide ((bs rest).length = b) = decide ((rest.size : Int) = (b : Int))
          rw [NM.bs_length, decide_eq_decide]
          omega
        have HR3 := Lib.hid hr2
        obtain ⟨av, cv, hva, _⟩ := TRow.shape hR
        subst hva
        have e0 : wo.cell? ⟨w.heap.size + 1 + 1 + 1, 0, none⟩ = some (.string rest) := r3.cell 0
        have e1 : wo.cell? ⟨w.heap.size + 1 + 1, 1, none⟩ = some (.string ⟨#[]⟩) := r2.cell 1
        have e2 : wo.frozen? ⟨w.heap.size + 1 + 1, 1, none⟩ = false := r2.frozen 1
        have g2 := r2.set_ 1 (.string rest)
        have g0 := r0.far (p := ⟨w.heap.size + 1 + 1, 1, none⟩) (by simp; omega) (.string rest)
        have g1 := r1.far (p := ⟨w.heap.size + 1 + 1, 1, none⟩) (by simp) (.string rest)
        have g3 := r3.far (p := ⟨w.heap.size + 1 + 1, 1, none⟩) (by simp) (.string rest)
        have G := Lib.hid (And.intro g0 (And.intro g1 (And.intro g2 g3)))
        have HT := Lib.hid (hT.setCell ⟨w.heap.size + 1 + 1, 1, none⟩ (.string rest) (.inr (by simp; omega)))
        clear r0 r1 r2 r3 hR hT hzz hrz hpl hnm hin hlt g0 g1 g2 g3 hr hr2 b0 b1 b2 b3 T1 hii
        go_wp2_with fail
        obtain ⟨w2, hw2⟩ : ∃ w2, w2 = wo.setCell ⟨w.heap.size + 1 + 1, 1, none⟩ (.string rest) := ⟨_, rfl⟩
        rw [← hw2] at G HT ⊢
        clear hw2 e0 e1 e2
        have s1 := G.out.2.1.set_ 0 (.string ah)
        have s2 := s1.set_ 1 (.string rest)
        have s3 := s2.set_ 2 (.slice av pre.length cv)
        have c0 : w2.cell? ⟨w.heap.size + 1 + 1, 0, none⟩ = some (.string ah) := G.out.2.2.1.cell 0
        have c1 : w2.cell? ⟨w.heap.size + 1 + 1, 1, none⟩ = some (.string rest) := G.out.2.2.1.cell 1
        have c2 : w2.cell? ⟨w.heap.size + 1 + 1, 2, none⟩ = some (.slice av pre.length cv) := G.out.2.2.1.cell 2
        have c3 : w2.cell? ⟨w.heap.size + 1 + 1 + 1, 0, none⟩ = some (.string rest) := G.out.2.2.2.cell 0
        have c4 : w2.cell? ⟨w.heap.size, 2, none⟩ = some (.int .i64 (b : Int)) := G.out.1.cell 2
        have f0 : w2.frozen? ⟨w.heap.size + 1, 0, none⟩ = false := G.out.2.1.frozen 0
        have f1 : w2.frozen? ⟨w.heap.size + 1, 1, none⟩ = false := G.out.2.1.frozen 1
        have f2 : w2.frozen? ⟨w.heap.size + 1, 2, none⟩ = false := G.out.2.1.frozen 2
        have k0 : w2.cell? ⟨w.heap.size + 1, 0, none⟩ = some (.string ⟨#[]⟩) := G.out.2.1.cell 0
        have k1 : w2.cell? ⟨w.heap.size + 1, 1, none⟩ = some (.string ⟨#[]⟩) := G.out.2.1.cell 1
        have k2 : w2.cell? ⟨w.heap.size + 1, 2, none⟩ = some (.slice none 0 0) := G.out.2.1.cell 2
        have S := Lib.hid (And.intro s1 (And.intro s2 s3))
        clear s1 s2 s3
        go_region
        have z0 : (w2.setCell ⟨w.heap.size + 1, 0, none⟩ (.string ah)).cell? ⟨w.heap.size + 1, 0, none⟩ = some (.string ah) := S.out.1.cell 0
        have z1 : ((w2.setCell ⟨w.heap.size + 1, 0, none⟩ (.string ah)).setCell ⟨w.heap.size + 1, 1, none⟩ (.string rest)).cell? ⟨w.heap.size + 1, 1, none⟩ = some (.string rest) := S.out.2.1.cell 1
        have z2 : (((w2.setCell ⟨w.heap.size + 1, 0, none⟩ (.string ah)).setCell ⟨w.heap.size + 1, 1, none⟩ (.string rest)).setCell ⟨w.heap.size + 1, 2, none⟩ (.slice av pre.length cv)).cell? ⟨w.heap.size + 1, 2, none⟩ = some (.slice av pre.length cv) := S.out.2.2.cell 2
        all_goals
          go_wp2_with fail
          refine bodyPost_ret (by simp [results, Tryz.results94, go_sem, z0, z1, z2, k0, k1, k2]; try rfl) rfl ?_
          exact ⟨_, _, _, _, _, by rw [HR3.out], (((HT.out.setCell _ _ (.inr (by simp))).setCell _ _ (.inr (by simp))).setCell _ _ (.inr (by simp))).drew_⟩
end Go.Proofs.YtibbfihnhlgkeaaGreat

/- Get, Name; the cache as the call's own. -/
import Derived.Test.YtibbfihnhlgkeaaGreatCacheZ2
import Derived.Test.YtibbfihnhlgkeaaGreatCacheLM
namespace Go.Proofs.YtibbfihnhlgkeaaGreat
open Go.RowKit Go.Maps Go.WideMaps
open NM (Bs bs ofBs)
open CM (It C)

theorem keyB_size (p : Nat) (n : ByteArray) (t c : Int) (hn : n.size ≤ 1000000000000) : (ofBs (CM.keyB p (bs n) t c)).size ≤ 1099511627776 := by
  rw [NM.ofBs_size]
  unfold CM.keyB NM.lower
  have := NM.bs_length n
  simp only [List.length_cons, List.length_append, List.length_map, List.length_nil]
  omega
set_option maxRecDepth 10000 in
set_option maxHeartbeats 1000000 in
theorem get_any (w : World) (B : Nat) (mo : Option Nat) (v : Value) (m u : Int) (l : List It) (h : K w B mo v m u l) (n : ByteArray) (hn : n.size ≤ 1000000000000) (t c : Nat) (now : Int) (hu : 0 ≤ u ∧ u ≤ 1099511627776) :
    Calls Tryz.prog 8 #[.pointer (some ⟨B, 0, none⟩), .string n, .int .u16 (t : Int), .int .u16 (c : Int), .int .i64 now] w (TellEnd w B mo v m u l (CM.tell ⟨m, u, l⟩ (ofBs (CM.keyB 0 (bs n) (t : Int) (c : Int))) now)) := by
  have HK := Lib.hid (fun W => keyOf_any W 0 (by omega) n (by omega) t c)
  obtain ⟨k, hk⟩ : ∃ k, k = ofBs (CM.keyB 0 (bs n) (t : Int) (c : Int)) := ⟨_, rfl⟩
  rw [← hk] at HK ⊢
  have hks : k.size ≤ 1099511627776 := by rw [hk]; exact keyB_size 0 n _ _ hn
  have T0 : Touch [] w (w.alloc (.cells zeroE 31)) := (Touch.refl [] w).alloc _
  have HT := Lib.hid (fun W (t : Touch [] (w.alloc (.cells zeroE 31)) W) => tell_any W B mo v m u l ((h.quiet T0).quiet t) k hks now hu)
  have HB0 := Lib.hid (Blk.new w 31 zeroE)
  have HH := Lib.hid h
  obtain ⟨r, hr⟩ : ∃ r, r = CM.tell ⟨m, u, l⟩ k now := ⟨_, rfl⟩
  have hr2 : (CM.find l k).filter (fun x => decide (now ≤ x.e.til)) = r := hr.symm
  rw [hr2] at HT
  rw [← hr]
  have HT0 := Lib.hid T0
  clear hk hks hu hn h T0 hr hr2
  go_enter Tryz.func8, Tryz.ntmps8
  go_upto_region 1 with (fail)
  obtain ⟨w0, hw0⟩ : ∃ w0, w0 = w.alloc (.cells zeroE 31) := ⟨_, rfl⟩
  obtain ⟨D, hD⟩ : ∃ D, D = w.heap.size := ⟨_, rfl⟩
  have HD := Lib.hid hD
  have HW0 := Lib.hid hw0
  rw [← HW0.out, ← HD.out]
  rw [← hw0] at HT HB0 HT0
  rw [← hD] at HB0
  clear hw0 hD
  go_wp2_with fail
  refine (HK.out _).mono ?_
  rintro e1 w1 ⟨rfl, T1⟩
  have HT1 := Lib.hid T1
  clear T1
  go_wp2_with fail
  refine (HT.out w1 HT1.out).mono ?_
  rintro e1 w2 HE
  have hb1 := HT1.out.blk HB0.out (by simp)
  have HK1 := (HH.out.quiet HT0.out).quiet HT1.out
  have hD1 : D ∉ cfoot B mo v l := HK1.ne_blk hb1 (by decide) (by decide) (by decide)
  rcases HE with ⟨rfl, rfl, hK, hT⟩ | ⟨x, rv, rfl, rfl, hrow, hK, hT⟩
  · have HB2 := Lib.hid (hT.blk hb1 hD1)
    have HX := Lib.hid (And.intro hK hT)
    clear hK hT hb1 HK1 hD1
    go_wp2_with (refine wpList_store_rowTo rfl 31 (.tmp 10) (.tmp 19) rfl rfl D zeroE rfl rfl 31 zeroE HB2.out (by kernel_rfl) rfl (entV_cells ⟨0, ⟨#[]⟩, 0, 0, [], 0, 0, 0, 0⟩ none 0 0) ?_)
    refine bodyPost_ret (results_pair rfl _ _ D 31 zeroE (0, 0) _ rfl (HB2.out.row _) Tryz.underlying31 rfl (by kernel_rfl)) rfl ?_
    left
    have t : Touch [D] w2 (w2.setRow D zeroE) := (Touch.refl _ w2).row _ _ (.inl (by simp))
    refine ⟨rfl, rfl, HX.out.1.touch1 HB2.out (by decide) (by decide) (by decide) (by decide) t, ?_⟩
    have t0 : Touch (cfoot B mo v l) w w1 := (HT0.out.trans HT1.out (by simp)).mono (by simp)
    exact (t0.trans HX.out.2 (fun k hk => .inl hk)).trans t (fun k hk => .inr (by simp at hk; rw [hk, HD.out]; exact Nat.le_refl _))
  · obtain ⟨a, c, rfl⟩ := own_shape hrow
    have HB2 := Lib.hid (hT.blk hb1 hD1)
    have HX := Lib.hid (And.intro hrow (And.intro hK hT))
    clear hrow hK hT hb1 HK1 hD1
    go_wp2_with (refine wpList_store_rowTo rfl 31 (.tmp 10) (.tmp 19) rfl rfl D (entV x.e (.slice a x.e.recs.length c)) rfl rfl 31 zeroE HB2.out (by kernel_rfl) rfl (entV_cells _ _ _ _) ?_)
    refine bodyPost_ret (results_pair rfl _ _ D 31 (entV x.e (.slice a x.e.recs.length c)) (0, 0) _ rfl (HB2.out.row _) Tryz.underlying31 rfl (by kernel_rfl)) rfl ?_
    right
    have t : Touch [D] w2 (w2.setRow D (entV x.e (.slice a x.e.recs.length c))) := (Touch.refl _ w2).row _ _ (.inl (by simp))
    have t0 : Touch (cfoot B mo v l) w w1 := (HT0.out.trans HT1.out (by simp)).mono (by simp)
    have hsz : w.heap.size ≤ w1.heap.size := t0.size
    have hD2 : D < w1.heap.size := by
      have := (HT1.out.blk HB0.out (by simp)).lt
      exact this
    refine ⟨x, _, rfl, rfl, ?_, HX.out.2.1.touch1 HB2.out (by decide) (by decide) (by decide) (by decide) t, (t0.trans HX.out.2.2 (fun k hk => .inl hk)).trans t (fun k hk => .inr (by simp at hk; rw [hk, HD.out]; exact Nat.le_refl _))⟩
    refine trow_touch (trow_base HX.out.1 hsz) t (fun k hk hm => ?_)
    have h9 := (HX.out.1.lt _ hk).1
    simp only [List.mem_cons, List.not_mem_nil, or_false] at hm
    omega
set_option maxRecDepth 10000 in
set_option maxHeartbeats 1000000 in
theorem name_any (w : World) (B : Nat) (mo : Option Nat) (v : Value) (m u : Int) (l : List It) (h : K w B mo v m u l) (n : ByteArray) (hn : n.size ≤ 1000000000000) (c : Nat) (now : Int) (hu : 0 ≤ u ∧ u ≤ 1099511627776) :
    Calls Tryz.prog 11 #[.pointer (some ⟨B, 0, none⟩), .string n, .int .u16 (c : Int), .int .i64 now] w (TellEnd w B mo v m u l (CM.tell ⟨m, u, l⟩ (ofBs (CM.keyB 1 (bs n) ((0 : Nat) : Int) (c : Int))) now)) := by
  have HK := Lib.hid (fun W => keyOf_any W 1 (by omega) n (by omega) 0 c)
  obtain ⟨k, hk⟩ : ∃ k, k = ofBs (CM.keyB 1 (bs n) ((0 : Nat) : Int) (c : Int)) := ⟨_, rfl⟩
  rw [← hk] at HK ⊢
  have hks : k.size ≤ 1099511627776 := by rw [hk]; exact keyB_size 1 n _ _ hn
  have T0 : Touch [] w (w.alloc (.cells zeroE 31)) := (Touch.refl [] w).alloc _
  have HT := Lib.hid (fun W (t : Touch [] (w.alloc (.cells zeroE 31)) W) => tell_any W B mo v m u l ((h.quiet T0).quiet t) k hks now hu)
  have HB0 := Lib.hid (Blk.new w 31 zeroE)
  have HH := Lib.hid h
  obtain ⟨r, hr⟩ : ∃ r, r = CM.tell ⟨m, u, l⟩ k now := ⟨_, rfl⟩
  have hr2 : (CM.find l k).filter (fun x => decide (now ≤ x.e.til)) = r := hr.symm
  rw [hr2] at HT
  rw [← hr]
  have HT0 := Lib.hid T0
  clear hk hks hu hn h T0 hr hr2
  go_enter Tryz.func11, Tryz.ntmps11
  go_upto_region 1 with (fail)
  obtain ⟨w0, hw0⟩ : ∃ w0, w0 = w.alloc (.cells zeroE 31) := ⟨_, rfl⟩
  obtain ⟨D, hD⟩ : ∃ D, D = w.heap.size := ⟨_, rfl⟩
  have HD := Lib.hid hD
  have HW0 := Lib.hid hw0
  rw [← HW0.out, ← HD.out]
  rw [← hw0] at HT HB0 HT0
  rw [← hD] at HB0
  clear hw0 hD
  go_wp2_with fail
  refine (HK.out _).mono ?_
  rintro e1 w1 ⟨rfl, T1⟩
  have HT1 := Lib.hid T1
  clear T1
  go_wp2_with fail
  refine (HT.out w1 HT1.out).mono ?_
  rintro e1 w2 HE
  have hb1 := HT1.out.blk HB0.out (by simp)
  have HK1 := (HH.out.quiet HT0.out).quiet HT1.out
  have hD1 : D ∉ cfoot B mo v l := HK1.ne_blk hb1 (by decide) (by decide) (by decide)
  rcases HE with ⟨rfl, rfl, hK, hT⟩ | ⟨x, rv, rfl, rfl, hrow, hK, hT⟩
  · have HB2 := Lib.hid (hT.blk hb1 hD1)
    have HX := Lib.hid (And.intro hK hT)
    clear hK hT hb1 HK1 hD1
    go_wp2_with (refine wpList_store_rowTo rfl 31 (.tmp 8) (.tmp 16) rfl rfl D zeroE rfl rfl 31 zeroE HB2.out (by kernel_rfl) rfl (entV_cells ⟨0, ⟨#[]⟩, 0, 0, [], 0, 0, 0, 0⟩ none 0 0) ?_)
    refine bodyPost_ret (results_pair rfl _ _ D 31 zeroE (0, 0) _ rfl (HB2.out.row _) Tryz.underlying31 rfl (by kernel_rfl)) rfl ?_
    left
    have t : Touch [D] w2 (w2.setRow D zeroE) := (Touch.refl _ w2).row _ _ (.inl (by simp))
    refine ⟨rfl, rfl, HX.out.1.touch1 HB2.out (by decide) (by decide) (by decide) (by decide) t, ?_⟩
    have t0 : Touch (cfoot B mo v l) w w1 := (HT0.out.trans HT1.out (by simp)).mono (by simp)
    exact (t0.trans HX.out.2 (fun k hk => .inl hk)).trans t (fun k hk => .inr (by simp at hk; rw [hk, HD.out]; exact Nat.le_refl _))
  · obtain ⟨a, c, rfl⟩ := own_shape hrow
    have HB2 := Lib.hid (hT.blk hb1 hD1)
    have HX := Lib.hid (And.intro hrow (And.intro hK hT))
    clear hrow hK hT hb1 HK1 hD1
    go_wp2_with (refine wpList_store_rowTo rfl 31 (.tmp 8) (.tmp 16) rfl rfl D (entV x.e (.slice a x.e.recs.length c)) rfl rfl 31 zeroE HB2.out (by kernel_rfl) rfl (entV_cells _ _ _ _) ?_)
    refine bodyPost_ret (results_pair rfl _ _ D 31 (entV x.e (.slice a x.e.recs.length c)) (0, 0) _ rfl (HB2.out.row _) Tryz.underlying31 rfl (by kernel_rfl)) rfl ?_
    right
    have t : Touch [D] w2 (w2.setRow D (entV x.e (.slice a x.e.recs.length c))) := (Touch.refl _ w2).row _ _ (.inl (by simp))
    have t0 : Touch (cfoot B mo v l) w w1 := (HT0.out.trans HT1.out (by simp)).mono (by simp)
    have hsz : w.heap.size ≤ w1.heap.size := t0.size
    have hD2 : D < w1.heap.size := by
      have := (HT1.out.blk HB0.out (by simp)).lt
      exact this
    refine ⟨x, _, rfl, rfl, ?_, HX.out.2.1.touch1 HB2.out (by decide) (by decide) (by decide) (by decide) t, (t0.trans HX.out.2.2 (fun k hk => .inl hk)).trans t (fun k hk => .inr (by simp at hk; rw [hk, HD.out]; exact Nat.le_refl _))⟩
    refine trow_touch (trow_base HX.out.1 hsz) t (fun k hk hm => ?_)
    have h9 := (HX.out.1.lt _ hk).1
    simp only [List.mem_cons, List.not_mem_nil, or_false] at hm
    omega
end Go.Proofs.YtibbfihnhlgkeaaGreat

/- CacheNil: of no cache nothing is told; a zero one has room for one. -/
import Derived.Test.YtibbfihnhlgkeaaCacheKB
import Derived.Test.YtibbfihnhlgkeaaCacheA4
import Derived.Test.YtibbfihnhlgkeaaCacheB1
namespace Go.Proofs.Ytibbfihnhlgkeaa
open Go.RowKit Go.Maps Go.WideMaps
open NM (Bs bs ofBs)
open CM (It C)

theorem oc_new (w0 w : World) (T : Touch [] w0 w) (m : Int) (hm : m ≤ 1000000) : OC w0 (w.alloc (.cells #[.int .i64 m, .map none, .slice none 0 0, .int .i64 0] 61)) w.heap.size ⟨m, 0, []⟩ := by
  refine ⟨⟨none, .slice none 0 0, ⟨⟨Blk.new w _ _, rfl, ⟨by simp, .inl ⟨rfl, rfl⟩⟩, fun i hi => by simp at hi, by simp⟩, .inl ⟨rfl, rfl⟩, by simp, by simp, by simp, by simp⟩, ?_⟩, ⟨by simp, by simp, by simp, by simp, ?_, by simp⟩, Int.le_refl _, hm⟩
  · intro k hk
    unfold cfoot at hk
    simp at hk
    rcases hk with hk | hk
    · rw [hk]
      exact T.size
    · cases hk
  · show ((([] : List It).length : Nat) : Int) ≤ CM.room _
    unfold CM.room
    simp
    omega
set_option maxRecDepth 10000 in
theorem tell_nil (w : World) (k : ByteArray) (now : Int) : Calls Try.prog 46 #[.pointer none, .string k, .int .i64 now] w fun e w' => e = .returned (.tuple #[.agg zeroE, .bool false]) ∧ Touch [] w w' := by
  have HB0 := Lib.hid (Blk.new w 25 zeroE)
  go_enter Try.func46, Try.ntmps46
  go_wp2_with (refine wpList_store_rowTo rfl 25 (.tmp 6) (.tmp 12) rfl rfl w.heap.size zeroE rfl rfl 25 zeroE HB0.out (by kernel_rfl) rfl (entV_cells ⟨0, ⟨#[]⟩, 0, 0, [], 0, 0, 0, 0⟩ none 0 0) ?_)
  refine bodyPost_ret (results_pair rfl _ _ w.heap.size 25 zeroE (0, 0) _ rfl (HB0.out.row _) Try.underlying25 rfl (by kernel_rfl)) rfl ?_
  exact ⟨rfl, laid_t _ _⟩
set_option maxRecDepth 10000 in
theorem get_nil (w : World) (n : ByteArray) (hn : n.size ≤ 140737488355328) (t c : Nat) (now : Int) : Calls Try.prog 19 #[.pointer none, .string n, .int .u16 (t : Int), .int .u16 (c : Int), .int .i64 now] w fun e w' => e = .returned (.tuple #[.agg zeroE, .bool false]) ∧ Touch [] w w' := by
  have HK := Lib.hid (fun W => keyOfB_any W 0 (by omega) n hn t c)
  obtain ⟨k, hk⟩ : ∃ k, k = ofBs (CM.keyB 0 (bs n) (t : Int) (c : Int)) := ⟨_, rfl⟩
  rw [← hk] at HK
  have HB0 := Lib.hid (Blk.new w 25 zeroE)
  have HT0 := Lib.hid ((Touch.refl [] w).alloc (.cells zeroE 25))
  clear hk hn
  go_enter Try.func19, Try.ntmps19
  go_upto_region 1 with (fail)
  obtain ⟨w0, hw0⟩ : ∃ w0, w0 = w.alloc (.cells zeroE 25) := ⟨_, rfl⟩
  have HW0 := Lib.hid hw0
  rw [← HW0.out]
  rw [← hw0] at HB0 HT0
  clear hw0
  go_wp2_with fail
  refine (HK.out _).mono ?_
  rintro e1 w1 ⟨rfl, T1⟩
  have HT1 := Lib.hid (HT0.out.trans T1 (by simp))
  have HB1 := Lib.hid (T1.blk HB0.out (by simp))
  clear T1
  go_wp2_with fail
  refine (tell_nil w1 k now).mono ?_
  rintro e1 w2 ⟨rfl, T2⟩
  have HT2 := Lib.hid (HT1.out.trans T2 (by simp))
  have HB2 := Lib.hid (T2.blk HB1.out (by simp))
  clear T2
  go_wp2_with (refine wpList_store_rowTo rfl 25 (.tmp 10) (.tmp 19) rfl rfl w.heap.size zeroE rfl rfl 25 zeroE HB2.out (by kernel_rfl) rfl (entV_cells ⟨0, ⟨#[]⟩, 0, 0, [], 0, 0, 0, 0⟩ none 0 0) ?_)
  refine bodyPost_ret (results_pair rfl _ _ w.heap.size 25 zeroE (0, 0) _ rfl (HB2.out.row _) Try.underlying25 rfl (by kernel_rfl)) rfl ?_
  exact ⟨rfl, HT2.out.row _ _ (.inr (Nat.le_refl _))⟩
set_option maxRecDepth 10000 in
theorem name_nil (w : World) (n : ByteArray) (hn : n.size ≤ 140737488355328) (c : Nat) (now : Int) : Calls Try.prog 22 #[.pointer none, .string n, .int .u16 (c : Int), .int .i64 now] w fun e w' => e = .returned (.tuple #[.agg zeroE, .bool false]) ∧ Touch [] w w' := by
  have HK := Lib.hid (fun W => keyOfB_any W 1 (by omega) n hn 0 c)
  obtain ⟨k, hk⟩ : ∃ k, k = ofBs (CM.keyB 1 (bs n) ((0 : Nat) : Int) (c : Int)) := ⟨_, rfl⟩
  rw [← hk] at HK
  have HB0 := Lib.hid (Blk.new w 25 zeroE)
  have HT0 := Lib.hid ((Touch.refl [] w).alloc (.cells zeroE 25))
  clear hk hn
  go_enter Try.func22, Try.ntmps22
  go_upto_region 1 with (fail)
  obtain ⟨w0, hw0⟩ : ∃ w0, w0 = w.alloc (.cells zeroE 25) := ⟨_, rfl⟩
  have HW0 := Lib.hid hw0
  rw [← HW0.out]
  rw [← hw0] at HB0 HT0
  clear hw0
  go_wp2_with fail
  refine (HK.out _).mono ?_
  rintro e1 w1 ⟨rfl, T1⟩
  have HT1 := Lib.hid (HT0.out.trans T1 (by simp))
  have HB1 := Lib.hid (T1.blk HB0.out (by simp))
  clear T1
  go_wp2_with fail
  refine (tell_nil w1 k now).mono ?_
  rintro e1 w2 ⟨rfl, T2⟩
  have HT2 := Lib.hid (HT1.out.trans T2 (by simp))
  have HB2 := Lib.hid (T2.blk HB1.out (by simp))
  clear T2
  go_wp2_with (refine wpList_store_rowTo rfl 25 (.tmp 8) (.tmp 16) rfl rfl w.heap.size zeroE rfl rfl 25 zeroE HB2.out (by kernel_rfl) rfl (entV_cells ⟨0, ⟨#[]⟩, 0, 0, [], 0, 0, 0, 0⟩ none 0 0) ?_)
  refine bodyPost_ret (results_pair rfl _ _ w.heap.size 25 zeroE (0, 0) _ rfl (HB2.out.row _) Try.underlying25 rfl (by kernel_rfl)) rfl ?_
  exact ⟨rfl, HT2.out.row _ _ (.inr (Nat.le_refl _))⟩
theorem next_nil (w : World) : Calls Try.prog 28 #[.pointer none] w fun e w' => e = .returned (.tuple #[.int .i64 0, .bool false]) ∧ w' = w := by
  go_enter Try.func28, Try.ntmps28
  go_wp2_with fail
  refine (clen_nil w).mono ?_
  rintro e w1 ⟨rfl, rfl⟩
  go_wp2_with fail
  go_returns
  exact ⟨rfl, rfl⟩
set_option maxRecDepth 10000 in
theorem putc_nil (w : World) (cs : Array Value) (now : Int) : Calls Try.prog 17 #[.pointer none, .agg cs, .int .i64 now] w fun e w' => e = .returned (.bool false) ∧ Touch [] w w' := by
  have HT0 := Lib.hid ((Touch.refl [] w).alloc (.cells cs 25))
  go_enter Try.func17, Try.ntmps17
  go_wp2_with fail
  go_ret
  exact ⟨rfl, HT0.out⟩
set_option maxRecDepth 10000 in
theorem expire_nil (w : World) (now : Int) : Calls Try.prog 29 #[.pointer none, .int .i64 now] w fun e w' => e = .returned (.int .i64 0) ∧ w' = w := by
  go_enter Try.func29, Try.ntmps29
  go_wp2_with fail
  go_loopw [5] (fun s5 wr => s5 = .int .i64 0 ∧ wr = w) (fun _ _ => 0)
  case atStart => exact ⟨rfl, rfl⟩
  case round =>
    obtain ⟨rfl, rfl⟩ := hrel
    go_wp2_with fail
    go_ret
    exact ⟨rfl, rfl⟩
set_option maxRecDepth 10000 in
theorem flush_nil (w : World) (z : ByteArray) (ep : Int) : Calls Try.prog 24 #[.pointer none, .string z, .int .i64 ep] w fun e w' => e = .returned (.int .i64 0) ∧ w' = w := by
  go_enter Try.func24, Try.ntmps24
  go_wp2_with fail
  go_ret
  exact ⟨rfl, rfl⟩
theorem all_nil (w : World) : Calls Try.prog 27 #[.pointer none] w fun e w' => e = .returned (.slice none 0 0) ∧ w' = w := by
  go_enter Try.func27, Try.ntmps27
  go_wp2_with fail
  go_ret
  exact ⟨rfl, rfl⟩
theorem cn_may1 : CM.mayPut ⟨0, 0, []⟩ (entE 97 5) 0 = true := by kernel_rfl
theorem cn_put1 (g : Nat) (rv : Value) (u : Int) : CM.put ⟨0, 0, []⟩ (entX 97 5 g rv u) 0 = ⟨0, 1, [entX 97 5 g rv 1]⟩ := by kernel_rfl
theorem cn_may2 (g : Nat) (rv : Value) : CM.mayPut ⟨0, 1, [entX 97 5 g rv 1]⟩ (entE 98 5) 0 = true := by kernel_rfl
theorem cn_put2 (g g2 : Nat) (rv rv2 : Value) (u : Int) : CM.put ⟨0, 1, [entX 97 5 g rv 1]⟩ (entX 98 5 g2 rv2 u) 0 = ⟨0, 2, [entX 98 5 g2 rv2 2]⟩ := by kernel_rfl
set_option maxRecDepth 10000 in
set_option maxHeartbeats 2000000 in
theorem cnil_any (n : ByteArray) (w : World) (hn : n.size ≤ 140737488355328) : Calls Try.prog 9 #[.string n] w fun e w' => e = .returned (.bool true) ∧ Touch [] w w' := by
  have HO0 := Lib.hid (oc_new w w (Touch.refl _ _) 0 (by omega))
  have HT0 := Lib.hid ((Touch.refl [] w).alloc (.cells #[.int .i64 0, .map none, .slice none 0 0, .int .i64 0] 61))
  obtain ⟨B, hB⟩ : ∃ B, B = w.heap.size := ⟨_, rfl⟩
  rw [← hB] at HO0
  have HB := Lib.hid hB
  obtain ⟨w0, hw0⟩ : ∃ W, W = w.alloc (.cells #[.int .i64 0, .map none, .slice none 0 0, .int .i64 0] 61) := ⟨_, rfl⟩
  rw [← hw0] at HO0 HT0
  have HW0 := Lib.hid hw0
  have HG := Lib.hid (fun W => get_nil W n hn 1 1 0)
  have HN := Lib.hid (fun W => name_nil W n hn 1 0)
  clear hw0 hB hn
  go_enter Try.func9, Try.ntmps9
  go_upto_region 3 with (fail)
  rw [← HW0.out, ← HB.out]
  go_wp2_with fail
  refine (HG.out _).mono ?_
  rintro e w1 ⟨rfl, T1⟩
  have HE1 := Lib.hid (Blk.new w1 25 zeroE)
  obtain ⟨w2, hw2⟩ : ∃ W, W = (w1.alloc (.cells zeroE 25)).setRow w1.heap.size zeroE := ⟨_, rfl⟩
  have HT2 := Lib.hid (show Touch [] w w2 by rw [hw2]; exact (HT0.out.trans T1 (by simp)).trans (laid_t _ _) (by simp))
  have HO2 := Lib.hid (show OC w w2 B ⟨0, 0, []⟩ by rw [hw2]; exact (HO0.out.quiet T1).laid _)
  have HW2 := Lib.hid hw2
  clear T1 hw2
  go_wp2_with (refine wpList_store_rowTo rfl 25 (.tmp 5) (.tmp 19) rfl rfl w1.heap.size zeroE rfl rfl 25 zeroE HE1.out (by kernel_rfl) rfl (entV_cells ⟨0, ⟨#[]⟩, 0, 0, [], 0, 0, 0, 0⟩ none 0 0) ?_; rw [← HW2.out])
  refine (HN.out _).mono ?_
  rintro e w3 ⟨rfl, T3⟩
  have HE3 := Lib.hid (Blk.new w3 25 zeroE)
  obtain ⟨w4, hw4⟩ : ∃ W, W = (w3.alloc (.cells zeroE 25)).setRow w3.heap.size zeroE := ⟨_, rfl⟩
  have HT4 := Lib.hid (show Touch [] w w4 by rw [hw4]; exact (HT2.out.trans T3 (by simp)).trans (laid_t _ _) (by simp))
  have HO4 := Lib.hid (show OC w w4 B ⟨0, 0, []⟩ by rw [hw4]; exact (HO2.out.quiet T3).laid _)
  have HW4 := Lib.hid hw4
  clear T3 hw4
  go_wp2_with (refine wpList_store_rowTo rfl 25 (.tmp 7) (.tmp 25) rfl rfl w3.heap.size zeroE rfl rfl 25 zeroE HE3.out (by kernel_rfl) rfl (entV_cells ⟨0, ⟨#[]⟩, 0, 0, [], 0, 0, 0, 0⟩ none 0 0) ?_; rw [← HW4.out])
  refine (next_nil _).mono ?_
  rintro e w5 ⟨rfl, rfl⟩
  go_wp2_with fail
  refine (entry_any _ 97 (by omega) 5).mono ?_
  rintro e w6 ⟨g6, rfl, _, b6, T6⟩
  have HO6 := Lib.hid (HO4.out.quiet T6)
  have HT6 := Lib.hid (HT4.out.trans T6 (by simp))
  have HB6 := Lib.hid b6
  clear T6 b6
  go_wp2_with fail
  refine (oputE w w6 B _ HO6.out 97 (by omega) 5 3 0 g6 HB6.out 0 (by simp)).mono ?_
  rintro e w7 ⟨S7, h7, ⟨hm, _⟩ | ⟨hm, gx, rv, u, _, O7⟩⟩
  · exact no_tf hm cn_may1
  have HT7 := Lib.hid (S7.touch HT6.out)
  have HO7 := Lib.hid (show OC w w7 B ⟨0, 1, [entX 97 5 gx rv 1]⟩ from by rw [← cn_put1 gx rv u]; exact O7)
  rw [hm] at h7
  subst h7
  clear S7 O7 hm
  go_wp2_with fail
  refine (entry_any _ 98 (by omega) 5).mono ?_
  rintro e w8 ⟨g8, rfl, _, b8, T8⟩
  have HO8 := Lib.hid (HO7.out.quiet T8)
  have HT8 := Lib.hid (HT7.out.trans T8 (by simp))
  have HB8 := Lib.hid b8
  clear T8 b8
  go_wp2_with fail
  refine (oputE w w8 B _ HO8.out 98 (by omega) 5 3 0 g8 HB8.out 0 (by simp)).mono ?_
  rintro e w9 ⟨S9, h9, ⟨hm, _⟩ | ⟨hm, gy, rv2, u2, _, O9⟩⟩
  · exact no_tf hm (cn_may2 _ _)
  have HT9 := Lib.hid (S9.touch HT8.out)
  have HO9 := Lib.hid (show OC w w9 B ⟨0, 2, [entX 98 5 gy rv2 2]⟩ from by rw [← cn_put2 gx gy rv rv2 u2]; exact O9)
  rw [hm] at h9
  subst h9
  clear S9 O9 hm
  go_wp2_with fail
  refine (awake_any _).mono ?_
  rintro e wa ⟨rfl, Ta⟩
  have HOa := Lib.hid (HO9.out.quiet Ta)
  have HTa := Lib.hid (HT9.out.trans Ta (by simp))
  clear Ta
  go_wp2_with fail
  refine (entry_any _ 97 (by omega) 5).mono ?_
  rintro e wb ⟨gb, rfl, _, _, Tb⟩
  have HOb := Lib.hid (HOa.out.quiet Tb)
  have HTb := Lib.hid (HTa.out.trans Tb (by simp))
  clear Tb
  go_wp2_with fail
  refine (putc_nil _ _ _).mono ?_
  rintro e wc ⟨rfl, Tc⟩
  have HOc := Lib.hid (HOb.out.quiet Tc)
  have HTc := Lib.hid (HTb.out.trans Tc (by simp))
  clear Tc
  go_wp2_with fail
  refine (expire_nil _ _).mono ?_
  rintro e wd ⟨rfl, rfl⟩
  go_wp2_with fail
  refine (flush_nil _ _ _).mono ?_
  rintro e wd ⟨rfl, rfl⟩
  go_wp2_with fail
  refine (clen_nil _).mono ?_
  rintro e wd ⟨rfl, rfl⟩
  go_wp2_with fail
  refine (all_nil _).mono ?_
  rintro e wd ⟨rfl, rfl⟩
  go_wp2_with fail
  refine (olen w _ B _ HOc.out).mono ?_
  rintro e wd ⟨rfl, rfl⟩
  go_wp2_with fail
  go_ret
  exact ⟨rfl, HTc.out⟩
end Go.Proofs.Ytibbfihnhlgkeaa

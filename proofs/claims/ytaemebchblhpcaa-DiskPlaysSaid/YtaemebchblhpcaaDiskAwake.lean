/- law09: awake: the chapter's examples. -/
import Derived.Test.YtaemebchblhpcaaDiskShort
namespace Go.Proofs.Ytaemebchblhpcaa
open Go.RowKit Go.Maps Go.WideMaps

/-- picks in a block of the call's own -/
theorem PicksAt.own {S : List Nat} {w : World} {g : Nat} {t : TypeId} {cs : Array Value} {ps : List Int} (hB : Blk w g t cs) (hg : g ∉ S) (hcs : cs = (ps.map (Value.int .i64)).toArray) (hl : ps.length ≤ maxLen) (hw : ∀ p ∈ ps, (Lit.int .i64 p).wf = true) :
    PicksAt S w (.slice (some ⟨g, 0, none⟩) ps.length ps.length) ps := by
  refine ⟨_, _, rfl, Nat.le_refl _, hl, hw, fun _ => ⟨g, 0, rfl, hg, fun j hj => ?_⟩⟩
  rw [Nat.zero_add]
  refine (hB.cell j).trans ?_
  subst hcs
  simp [hj]
theorem Ends.of {b n : Nat} {mo : Option Nat} {w w' : World} {r r' : Int × DM.D} {e : Ending} (h : Ends b n mo w r e w') (hr : r = r') : Ends b n mo w r' e w' := hr ▸ h

/-- a disk of the call's own -/
def Own (w0 w : World) (b n : Nat) (d : DM.D) : Prop := ∃ mo, DiskAt w b mo n d ∧ Touch [] w0 w ∧ w0.heap.size ≤ b ∧ ∀ m, mo = some m → w0.heap.size ≤ m
theorem Own.ends {w0 w w' : World} {b n : Nat} {mo : Option Nat} {r : Int × DM.D} (h : Touch [] w0 w) (hb : w0.heap.size ≤ b) (hm : ∀ m, mo = some m → w0.heap.size ≤ m) (he : ∃ mo', DiskAt w' b mo' (n + 2) r.2 ∧ DTouch b mo mo' w w') : Own w0 w' b (n + 2) r.2 := by
  obtain ⟨mo', hd, ht, hf⟩ := he
  exact ⟨mo', hd, h.trans ht (fun k hk => by
    rcases List.mem_cons.1 hk with rfl | hk
    · exact .inr hb
    · simp at hk; exact .inr (hm k hk)), hb, fun m hm' => (hf m hm').elim (hm m) (fun h2 => Nat.le_trans h.size h2)⟩
theorem Own.touch {w0 w w' : World} {b n : Nat} {d : DM.D} (h : Own w0 w b n d) (ht : Touch [] w w') : Own w0 w' b n d := by
  obtain ⟨mo, hd, T, hb, hm⟩ := h
  exact ⟨mo, hd.touch ht (by simp) (by simp), T.trans ht (by simp), hb, hm⟩
theorem Own.T {w0 w : World} {b n : Nat} {d : DM.D} (h : Own w0 w b n d) : Touch [] w0 w := by
  obtain ⟨mo, hd, T, hb, hm⟩ := h
  exact T
/-- another disk, older than this one's base, is as it was -/
theorem Own.other {w0 w w' : World} {b n : Nat} {d : DM.D} (h : Own w0 w b n d) {S : List Nat} (ht : Touch S w w') (hS : ∀ k ∈ S, k < w0.heap.size) {z : World} (hz : Touch [] z w') (hzs : z.heap.size ≤ w0.heap.size) : Own z w' b n d := by
  obtain ⟨mo, hd, T, hb, hm⟩ := h
  exact ⟨mo, hd.touch ht (fun h => by have := hS _ h; omega) (fun m hm' h => by have := hS _ h; have := hm m hm'; omega), hz, Nat.le_trans hzs hb, fun m hm' => Nat.le_trans hzs (hm m hm')⟩
theorem append_own {w0 w : World} {b n : Nat} {d : DM.D} (h : Own w0 w b n d) (hn : n < 1099511627775) (k s : ByteArray) (hk : k.size ≤ maxLen) (hu : DM.used d.fl + s.size ≤ 1099511627776) {r : Int × DM.D} (hr : DM.append d (nm k) s = r) :
    Calls Try.prog 12 #[.pointer (some ⟨b, 0, none⟩), .string k, .string s] w fun e w' => e = .returned (.int .i64 r.1) ∧ Own w0 w' b (n + 2) r.2 := by
  obtain ⟨mo, hd, T, hb, hm⟩ := h
  refine (append_any w b n mo d hd hn k s hk hu).mono ?_
  rw [hr]
  rintro e w' ⟨rfl, he⟩
  exact ⟨rfl, Own.ends T hb hm he⟩
theorem sync_own {w0 w : World} {b n : Nat} {d : DM.D} (h : Own w0 w b n d) (hn : n < 1099511627775) (k : ByteArray) (hk : k.size ≤ maxLen) {r : Int × DM.D} (hr : DM.sync d (nm k) = r) :
    Calls Try.prog 13 #[.pointer (some ⟨b, 0, none⟩), .string k] w fun e w' => e = .returned (.int .i64 r.1) ∧ Own w0 w' b (n + 2) r.2 := by
  obtain ⟨mo, hd, T, hb, hm⟩ := h
  refine (sync_any w b n mo d hd hn k hk).mono ?_
  rw [hr]
  rintro e w' ⟨rfl, he⟩
  exact ⟨rfl, Own.ends T hb hm he⟩
theorem rename_own {w0 w : World} {b n : Nat} {d : DM.D} (h : Own w0 w b n d) (hn : n < 1099511627775) (k m : ByteArray) (hk : k.size ≤ maxLen) (hm : m.size ≤ maxLen) {r : Int × DM.D} (hr : DM.rename d (nm k) (nm m) = r) :
    Calls Try.prog 21 #[.pointer (some ⟨b, 0, none⟩), .string k, .string m] w fun e w' => e = .returned (.int .i64 r.1) ∧ Own w0 w' b (n + 2) r.2 := by
  obtain ⟨mo, hd, T, hb, hmm⟩ := h
  refine (rename_any w b n mo d hd hn k m hk hm).mono ?_
  rw [hr]
  rintro e w' ⟨rfl, he⟩
  exact ⟨rfl, Own.ends T hb hmm he⟩
theorem read_own {w0 w : World} {b n : Nat} {d : DM.D} (h : Own w0 w b n d) (k : ByteArray) (hk : k.size ≤ maxLen) {r : ByteArray × Int} (hr : DM.read d (nm k) = r) :
    Calls Try.prog 14 #[.pointer (some ⟨b, 0, none⟩), .string k] w fun e w' => e = .returned (.tuple #[.string r.1, .int .i64 r.2]) ∧ Own w0 w' b n d ∧ Touch [] w w' := by
  obtain ⟨mo, hd, T, hb, hm⟩ := h
  refine (read_any w b n mo d hd k hk).mono ?_
  rw [hr]
  rintro e w' ⟨rfl, ht⟩
  exact ⟨rfl, Own.touch ⟨mo, hd, T, hb, hm⟩ ht, ht⟩
theorem used_own {w0 w : World} {b n : Nat} {d : DM.D} (h : Own w0 w b n d) (hn : n < 1099511627776) :
    Calls Try.prog 16 #[.pointer (some ⟨b, 0, none⟩)] w fun e w' => e = .returned (.int .i64 (DM.used d.fl)) ∧ Own w0 w' b n d ∧ Touch [] w w' := by
  obtain ⟨mo, hd, T, hb, hm⟩ := h
  refine (used_any w b n mo d hd hn).mono ?_
  rintro e w' ⟨rfl, ht⟩
  exact ⟨rfl, Own.touch ⟨mo, hd, T, hb, hm⟩ ht, ht⟩
theorem new_own (w0 w : World) (T : Touch [] w0 w) (r : Int) (hr : (Lit.int .i64 r).wf = true) :
    Calls Try.prog 11 #[.int .i64 r] w fun e w' => e = .returned (.pointer (some ⟨w.heap.size, 0, none⟩)) ∧ Own w0 w' w.heap.size 0 (DM.new r) := by
  refine (new_any r hr w).mono ?_
  rintro e w' ⟨rfl, hd, ht⟩
  exact ⟨rfl, none, hd, T.trans ht (by simp), T.size, fun m hm => by cases hm⟩
/-- Crash with picks in old blocks -/
theorem crash_own {w0 w : World} {b n : Nat} {d : DM.D} (h : Own w0 w b n d) (hn : n < 1099511627776) (a0 : Option Addr) (l0 c0 : Nat) (ps : List Int) (hp : ∀ S, (∀ k ∈ S, w0.heap.size ≤ k) → PicksAt S w (.slice a0 l0 c0) ps) {d' : DM.D} (hr : DM.crash d ps = d') :
    Calls Try.prog 15 #[.pointer (some ⟨b, 0, none⟩), .slice a0 l0 c0] w fun e w' => e = .returned (.tuple #[]) ∧ Own w0 w' b n d' := by
  obtain ⟨mo, hd, T, hb, hm⟩ := h
  refine (crash_any w b n mo d hd hn a0 l0 c0 ps (hp _ (fun k hk => ?_))).mono ?_
  · rcases List.mem_cons.1 hk with rfl | hk
    · exact T.size
    · rcases List.mem_cons.1 hk with rfl | hk
      · exact hb
      · simp at hk; exact hm k hk
  rw [hr]
  rintro e w' ⟨rfl, hd', ht, hf⟩
  exact ⟨rfl, mo, hd', T.trans ht (fun k hk => by
    rcases List.mem_cons.1 hk with rfl | hk
    · exact .inr hb
    · simp at hk; exact .inr (hm k hk)), hb, hm⟩

set_option maxRecDepth 10000 in
set_option maxHeartbeats 800000 in
theorem awake_any (w : World) : Calls Try.prog 9 #[] w fun e w' => e = .returned (.bool true) ∧ Touch [] w w' := by
  have hsa : sA.size ≤ maxLen := by decide
  have HSA := Lib.hid hsa
  have hB0 : w.heap.size ≤ w.heap.size := Nat.le_refl _
  clear hsa
  go_enter Try.func9, Try.ntmps9
  go_wp2_with fail
  refine (new_own w _ (Touch.refl _ _) 9 (by decide)).mono ?_
  rintro e w1 ⟨rfl, o1⟩
  go_wp2_with fail
  refine (append_own o1 (by omega) sA ⟨#[120, 121, 122]⟩ HSA.out (by decide) aw1).mono ?_
  rintro e w2 ⟨rfl, o2⟩
  go_wp2_with fail
  refine (sync_own o2 (by omega) sA HSA.out aw2).mono ?_
  rintro e w3 ⟨rfl, o3⟩
  go_wp2_with fail
  refine (append_own o3 (by omega) sA ⟨#[117, 118, 119]⟩ HSA.out (by decide) aw3).mono ?_
  rintro e w4 ⟨rfl, m4, d4, T4, hb0, hm0⟩
  clear o1 o2 o3
  go_wp2_with fail
  refine (copy_any w4 _ 6 m4 _ d4).mono ?_
  rintro e w5 ⟨rfl, mc, c5, T5, hmc⟩
  have hb4 := d4.blk.lt
  have hm4 : ∀ m, m4 = some m → m < w4.heap.size := fun m hm => d4.lt_map hm
  have o5 : Own w4 w5 w4.heap.size 6 _ := ⟨mc, c5, T5, Nat.le_refl _, hmc⟩
  have d5 := d4.touch T5 (by simp) (by simp)
  have HC := Lib.hid (o5)
  have hS4 : ∀ k ∈ w.heap.size :: m4.toList, k < w4.heap.size := fun k hk => by
    rcases List.mem_cons.1 hk with rfl | hk
    · exact hb4
    · simp at hk; exact hm4 k hk
  clear c5 hmc hB0
  go_wp2_with fail
  have TP : Touch [] w5 (w5.alloc (.cells #[.int .i64 2] 3)) := (Touch.refl [] w5).alloc _
  have hPB : Blk (w5.alloc (.cells #[.int .i64 2] 3)) w5.heap.size 3 #[.int .i64 2] := Blk.new _ _ _
  have hs5 := T5.size
  refine (crash_any (w5.alloc (.cells #[.int .i64 2] 3)) _ 6 m4 _ (d5.touch TP (by simp) (by simp)) (by omega) (some ⟨w5.heap.size, 0, none⟩) 1 1 [2] (PicksAt.own (ps := [2]) hPB (by simp only [List.mem_cons, not_or]; exact ⟨by simp, by omega, fun h => by simp at h; have := hm4 _ h; omega⟩) rfl (by decide) (by decide))).mono ?_
  rw [aw4]
  rintro e w6 ⟨rfl, d6, D6⟩
  have c6 := Lib.hid (D6.1)
  go_wp2_with fail
  refine (read_any w6 _ 6 m4 _ d6 sA HSA.out).mono ?_
  rw [aw5]
  rintro e w7 ⟨rfl, T7⟩
  have d7 := d6.touch T7 (by simp) (by simp)
  go_wp2_with fail
  refine (append_any w7 _ 6 m4 _ d7 (by omega) sA ⟨#[49, 50, 51, 52, 53, 54, 55]⟩ HSA.out (by decide)).mono ?_
  rw [aw6]
  rintro e w8 ⟨rfl, m8, d8, D8⟩
  go_wp2_with fail
  have T56 : Touch (w.heap.size :: m4.toList) w5 w6 := (TP.mono (by simp)).trans D6.1 (fun k hk => .inl hk)
  have T58 : Touch (w.heap.size :: m4.toList) w5 w8 := (T56.trans T7 (by simp)).trans D8.1 (fun k hk => .inl hk)
  have T08 : Touch [] w w8 := (T4.trans T5 (by simp)).trans T58 (fun k hk => by
    rcases List.mem_cons.1 hk with rfl | hk
    · exact .inr (Nat.le_refl _)
    · simp at hk; exact .inr (hm0 k hk))
  have o8 := o5.other T58 hS4 T08 T4.size
  have hs8 := T08.size
  clear d5 d6 d7 d8 D6 D8 T7 T58 T56 T5 TP hPB c6 o5 hS4 hm4 hm0 d4
  have TQ : Touch [] w8 (w8.alloc (.cells #[.int .i64 2, .int .i64 1] 3)) := (Touch.refl [] w8).alloc _
  have hQB : Blk (w8.alloc (.cells #[.int .i64 2, .int .i64 1] 3)) w8.heap.size 3 #[.int .i64 2, .int .i64 1] := Blk.new _ _ _
  obtain ⟨mk, dk, Tk, hbk, hmk⟩ := o8
  have hblk := dk.blk.lt
  have hmlk : ∀ m, mk = some m → m < w8.heap.size := fun m hm => dk.lt_map hm
  refine (crash_any (w8.alloc (.cells #[.int .i64 2, .int .i64 1] 3)) _ 6 mk _ (dk.touch TQ (by simp) (by simp)) (by omega) (some ⟨w8.heap.size, 0, none⟩) 2 2 [2, 1] (PicksAt.own (ps := [2, 1]) hQB (by simp only [List.mem_cons, not_or]; exact ⟨by simp, by omega, fun h => by simp at h; have := hmlk _ h; omega⟩) rfl (by decide) (by decide))).mono ?_
  rw [aw7]
  rintro e w9 ⟨rfl, d9, D9⟩
  have o9 : Own w w9 w4.heap.size 6 _ := ⟨mk, d9, (Tk.trans TQ (by simp)).trans D9.1 (fun k hk => by
    rcases List.mem_cons.1 hk with rfl | hk
    · exact .inr hbk
    · simp at hk; exact .inr (hmk k hk)), hbk, hmk⟩
  clear d9 D9 dk Tk hbk hmk hblk hmlk TQ hQB
  go_wp2_with fail
  refine (read_own o9 sA HSA.out aw8).mono ?_
  rintro e w10 ⟨rfl, o10, _⟩
  clear o9
  go_wp2_with fail
  obtain ⟨mj, dj, Tj, hbj, hmj⟩ := o10
  refine (arm_any w10 _ 6 mj _ dj 1).mono ?_
  rintro e w11 ⟨rfl, d11, T11⟩
  have o11 : Own w w11 w4.heap.size 6 _ := ⟨mj, d11, Tj.trans T11 (fun k hk => by simp at hk; subst hk; exact .inr hbj), hbj, hmj⟩
  clear d11 T11 dj Tj hbj hmj
  go_wp2_with fail
  refine (append_own o11 (by omega) sA ⟨#[120]⟩ HSA.out (by decide) aw9).mono ?_
  rintro e w12 ⟨rfl, o12⟩
  go_wp2_with fail
  refine (append_own o12 (by omega) sA ⟨#[120]⟩ HSA.out (by decide) aw10).mono ?_
  rintro e w13 ⟨rfl, o13⟩
  clear o11 o12
  have hcv : (convert 62 9 (.slice (some ⟨w13.heap.size, 0, none⟩) 1 1)).run Try.prog (w13.alloc (.cells #[.int .u8 137] 5)) = .ok (.string ⟨#[137]⟩) (w13.alloc (.cells #[.int .u8 137] 5)) :=
    run_convert_bytes_back (P := Try.prog) _ 62 9 5 ⟨w13.heap.size, 0, none⟩ 1 [137] Try.underlying62 Try.underlying5 Try.underlying9 (fun j hj => by
      obtain rfl : j = 0 := by simpa using hj
      exact (Blk.new w13 5 #[.int .u8 137]).cell 0)
  obtain ⟨mi, di, Ti, hbi, hmi⟩ := o13
  have TR : Touch [] w13 (w13.alloc (.cells #[.int .u8 137] 5)) := (Touch.refl [] w13).alloc _
  have hon := on_any _ _ _ mi _ (di.touch TR (by simp) (by simp))
  have HON := Lib.hid hon
  clear hon
  have hcat : ((⟨#[120, 121, 122, 117]⟩ : ByteArray) ++ ⟨#[137]⟩) = ⟨#[120, 121, 122, 117, 137]⟩ := by kernel_rfl
  go_wp2_with fail
  refine HON.out.mono ?_
  rintro e w14 ⟨rfl, rfl⟩
  go_wp2_with fail
  go_ret
  exact ⟨rfl, Ti.trans TR (by simp)⟩
end Go.Proofs.Ytaemebchblhpcaa

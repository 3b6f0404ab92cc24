/- A disk of the call's own: its contracts. -/
import Derived.Test.YtmglkhnojimnlaaGreatDiskNilC
namespace Go.Proofs.YtmglkhnojimnlaaGreat
open Go.RowKit Go.Maps Go.WideMaps

/-- picks in a block of the call's own -/
theorem PicksAt.own {S : List Nat} {w : World} {g : Nat} {t : TypeId} {cs : Array Value} {ps : List Int} (hB : Blk w g t cs) (hg : g ∉ S) (hcs : cs = (ps.map (Value.int .i64)).toArray) (hl : ps.length ≤ maxLen) (hw : ∀ p ∈ ps, (Lit.int .i64 p).wf = true) :
    PicksAt S w (.slice (some ⟨g, 0, none⟩) ps.length ps.length) ps := by
  refine ⟨_, _, rfl, Nat.le_refl _, hl, hw, fun _ => ⟨g, 0, rfl, hg, fun j hj => ?_⟩⟩
  rw [Nat.zero_add]
  refine (hB.cell j).trans ?_
  subst hcs
  simp [hj]
theorem Ends.of {b n : Nat} {mo : Option Nat} {w w' : World} {r r' : Int × DM.D} {e : Ending} (h : Ends b n mo w r e w') (hr : r = r') : Ends b n mo w r' e w' := hr ▸ h

/-- a disk of the call's own -/
def Own (w0 w : World) (b n : Nat) (d : DM.D) : Prop := ∃ mo, DiskAt w b mo n d ∧ Touch [] w0 w ∧ w0.heap.size ≤ b ∧ ∀ m, mo = some m → w0.heap.size ≤ m
theorem Own.ends {w0 w w' : World} {b n : Nat} {mo : Option Nat} {r : Int × DM.D} (h : Touch [] w0 w) (hb : w0.heap.size ≤ b) (hm : ∀ m, mo = some m → w0.heap.size ≤ m) (he : ∃ mo', DiskAt w' b mo' (n + 2) r.2 ∧ DTouch b mo mo' w w') : Own w0 w' b (n + 2) r.2 := by
  obtain ⟨mo', hd, ht, hf⟩ := he
  exact ⟨mo', hd, h.trans ht (fun k hk => by
    rcases List.mem_cons.1 hk with rfl | hk
    · exact .inr hb
    · simp at hk; exact .inr (hm k hk)), hb, fun m hm' => (hf m hm').elim (hm m) (fun h2 => Nat.le_trans h.size h2)⟩
theorem Own.touch {w0 w w' : World} {b n : Nat} {d : DM.D} (h : Own w0 w b n d) (ht : Touch [] w w') : Own w0 w' b n d := by
  obtain ⟨mo, hd, T, hb, hm⟩ := h
  exact ⟨mo, hd.touch ht (by simp) (by simp), T.trans ht (by simp), hb, hm⟩
theorem Own.T {w0 w : World} {b n : Nat} {d : DM.D} (h : Own w0 w b n d) : Touch [] w0 w := by
  obtain ⟨mo, hd, T, hb, hm⟩ := h
  exact T
/-- another disk, older than this one's base, is as it was -/
theorem Own.other {w0 w w' : World} {b n : Nat} {d : DM.D} (h : Own w0 w b n d) {S : List Nat} (ht : Touch S w w') (hS : ∀ k ∈ S, k < w0.heap.size) {z : World} (hz : Touch [] z w') (hzs : z.heap.size ≤ w0.heap.size) : Own z w' b n d := by
  obtain ⟨mo, hd, T, hb, hm⟩ := h
  exact ⟨mo, hd.touch ht (fun h => by have := hS _ h; omega) (fun m hm' h => by have := hS _ h; have := hm m hm'; omega), hz, Nat.le_trans hzs hb, fun m hm' => Nat.le_trans hzs (hm m hm')⟩
theorem append_own {w0 w : World} {b n : Nat} {d : DM.D} (h : Own w0 w b n d) (hn : n < 1099511627775) (k s : ByteArray) (hk : k.size ≤ maxLen) (hu : DM.used d.fl + s.size ≤ 1099511627776) {r : Int × DM.D} (hr : DM.append d (nm k) s = r) :
    Calls Tryz.prog 52 #[.pointer (some ⟨b, 0, none⟩), .string k, .string s] w fun e w' => e = .returned (.int .i64 r.1) ∧ Own w0 w' b (n + 2) r.2 := by
  obtain ⟨mo, hd, T, hb, hm⟩ := h
  refine (append_any w b n mo d hd hn k s hk hu).mono ?_
  rw [hr]
  rintro e w' ⟨rfl, he⟩
  exact ⟨rfl, Own.ends T hb hm he⟩
theorem sync_own {w0 w : World} {b n : Nat} {d : DM.D} (h : Own w0 w b n d) (hn : n < 1099511627775) (k : ByteArray) (hk : k.size ≤ maxLen) {r : Int × DM.D} (hr : DM.sync d (nm k) = r) :
    Calls Tryz.prog 47 #[.pointer (some ⟨b, 0, none⟩), .string k] w fun e w' => e = .returned (.int .i64 r.1) ∧ Own w0 w' b (n + 2) r.2 := by
  obtain ⟨mo, hd, T, hb, hm⟩ := h
  refine (sync_any w b n mo d hd hn k hk).mono ?_
  rw [hr]
  rintro e w' ⟨rfl, he⟩
  exact ⟨rfl, Own.ends T hb hm he⟩
theorem rename_own {w0 w : World} {b n : Nat} {d : DM.D} (h : Own w0 w b n d) (hn : n < 1099511627775) (k m : ByteArray) (hk : k.size ≤ maxLen) (hm : m.size ≤ maxLen) {r : Int × DM.D} (hr : DM.rename d (nm k) (nm m) = r) :
    Calls Tryz.prog 58 #[.pointer (some ⟨b, 0, none⟩), .string k, .string m] w fun e w' => e = .returned (.int .i64 r.1) ∧ Own w0 w' b (n + 2) r.2 := by
  obtain ⟨mo, hd, T, hb, hmm⟩ := h
  refine (rename_any w b n mo d hd hn k m hk hm).mono ?_
  rw [hr]
  rintro e w' ⟨rfl, he⟩
  exact ⟨rfl, Own.ends T hb hmm he⟩
theorem read_own {w0 w : World} {b n : Nat} {d : DM.D} (h : Own w0 w b n d) (k : ByteArray) (hk : k.size ≤ maxLen) {r : ByteArray × Int} (hr : DM.read d (nm k) = r) :
    Calls Tryz.prog 41 #[.pointer (some ⟨b, 0, none⟩), .string k] w fun e w' => e = .returned (.tuple #[.string r.1, .int .i64 r.2]) ∧ Own w0 w' b n d ∧ Touch [] w w' := by
  obtain ⟨mo, hd, T, hb, hm⟩ := h
  refine (read_any w b n mo d hd k hk).mono ?_
  rw [hr]
  rintro e w' ⟨rfl, ht⟩
  exact ⟨rfl, Own.touch ⟨mo, hd, T, hb, hm⟩ ht, ht⟩
theorem used_own {w0 w : World} {b n : Nat} {d : DM.D} (h : Own w0 w b n d) (hn : n < 1099511627776) :
    Calls Tryz.prog 10 #[.pointer (some ⟨b, 0, none⟩)] w fun e w' => e = .returned (.int .i64 (DM.used d.fl)) ∧ Own w0 w' b n d ∧ Touch [] w w' := by
  obtain ⟨mo, hd, T, hb, hm⟩ := h
  refine (used_any w b n mo d hd hn).mono ?_
  rintro e w' ⟨rfl, ht⟩
  exact ⟨rfl, Own.touch ⟨mo, hd, T, hb, hm⟩ ht, ht⟩
theorem new_own (w0 w : World) (T : Touch [] w0 w) (r : Int) (hr : (Lit.int .i64 r).wf = true) :
    Calls Tryz.prog 5 #[.int .i64 r] w fun e w' => e = .returned (.pointer (some ⟨w.heap.size, 0, none⟩)) ∧ Own w0 w' w.heap.size 0 (DM.new r) := by
  refine (new_any r hr w).mono ?_
  rintro e w' ⟨rfl, hd, ht⟩
  exact ⟨rfl, none, hd, T.trans ht (by simp), T.size, fun m hm => by cases hm⟩
/-- Crash with picks in old blocks -/
theorem crash_own {w0 w : World} {b n : Nat} {d : DM.D} (h : Own w0 w b n d) (hn : n < 1099511627776) (a0 : Option Addr) (l0 c0 : Nat) (ps : List Int) (hp : ∀ S, (∀ k ∈ S, w0.heap.size ≤ k) → PicksAt S w (.slice a0 l0 c0) ps) {d' : DM.D} (hr : DM.crash d ps = d') :
    Calls Tryz.prog 21 #[.pointer (some ⟨b, 0, none⟩), .slice a0 l0 c0] w fun e w' => e = .returned (.tuple #[]) ∧ Own w0 w' b n d' := by
  obtain ⟨mo, hd, T, hb, hm⟩ := h
  refine (crash_any w b n mo d hd hn a0 l0 c0 ps (hp _ (fun k hk => ?_))).mono ?_
  · rcases List.mem_cons.1 hk with rfl | hk
    · exact T.size
    · rcases List.mem_cons.1 hk with rfl | hk
      · exact hb
      · simp at hk; exact hm k hk
  rw [hr]
  rintro e w' ⟨rfl, hd', ht, hf⟩
  exact ⟨rfl, mo, hd', T.trans ht (fun k hk => by
    rcases List.mem_cons.1 hk with rfl | hk
    · exact .inr hb
    · simp at hk; exact .inr (hm k hk)), hb, hm⟩

end Go.Proofs.YtmglkhnojimnlaaGreat

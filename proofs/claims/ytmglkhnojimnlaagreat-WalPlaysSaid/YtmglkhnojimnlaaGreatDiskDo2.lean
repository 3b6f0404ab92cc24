/- Package disk: the other closures. -/
import Derived.Test.YtmglkhnojimnlaaGreatDiskDo
import Derived.StillTailTactics
namespace Go.Proofs.YtmglkhnojimnlaaGreat
open Go.RowKit Go.Maps Go.WideMaps
open DM (N F FL Sorted)

theorem MapF.drop {w : World} {mo : Option Nat} {n : Nat} {l : FL} (h : MapF w mo n l) (s : ByteArray) (hs : s.size ≤ maxLen) (hl : Sorted l) :
    ∃ w', (∀ ty, (Builtin.delete_ #[53, 9] ty #[.map mo, .string s]).run Tryz.prog w = .ok (.tuple #[]) w') ∧ MapF w' mo n (DM.del l (nm s)) ∧ Touch mo.toList w w' := by
  rcases h with ⟨rfl, rfl⟩ | ⟨mb, Dm, rfl, hown, hv⟩
  · exact ⟨w, fun ty => Maps.drop_nil kstr Tryz.underlying53 (keyOf_string_mk Tryz.underlying9 hs) ty, .inl ⟨rfl, rfl⟩, Touch.refl _ _⟩
  · obtain ⟨w', hrun, hown', ht⟩ := hown.drop kstr Tryz.underlying53 (keyOf_string_mk Tryz.underlying9 hs) 0
    exact ⟨w', fun ty => hrun, .inr ⟨mb, _, rfl, hown', hv.del hl (nm s)⟩, Touch.of_grown ht.grown⟩
theorem DiskAt.drop {w : World} {b : Nat} {mo : Option Nat} {n : Nat} {d : DM.D} (h : DiskAt w b mo n d) (s : ByteArray) (hs : s.size ≤ maxLen) :
    ∃ w', (∀ ty, (Builtin.delete_ #[53, 9] ty #[.map mo, .string s]).run Tryz.prog w = .ok (.tuple #[]) w') ∧ DiskAt w' b mo n { d with fl := DM.del d.fl (nm s) } ∧ Touch mo.toList w w' := by
  obtain ⟨w', hrun, hm, ht⟩ := h.map.drop s hs h.fit.sorted
  exact ⟨w', hrun, ⟨ht.blk h.blk (by cases mo with | none => simp | some m => simpa using h.ne_map rfl), h.room, h.left, h.done, hm, h.fit.del _⟩, ht⟩

set_option maxRecDepth 10000 in
set_option maxHeartbeats 800000 in
theorem removeDo (w : World) (b n : Nat) (mo : Option Nat) (d : DM.D) (h : DiskAt w b mo n d) (B0 B1 : Nat) (k : ByteArray)
    (h0 : w.cell? ⟨B0, 0, none⟩ = some (.pointer (some ⟨b, 0, none⟩))) (h1 : w.cell? ⟨B1, 0, none⟩ = some (.string k)) (hk : k.size ≤ 40) :
    Calls Tryz.prog 96 #[.pointer (some ⟨B0, 0, none⟩), .pointer (some ⟨B1, 0, none⟩)] w fun e w' => e = .returned (.tuple #[]) ∧
      ∃ mo', DiskAt w' b mo' n { d with fl := DM.del d.fl (nm k) } ∧ DTouch b mo mo' w w' := by
  have c1 := h.c1
  obtain ⟨w1, hrun, hd1, ht1⟩ := (h.drewN 1).drop k (by unfold maxLen; omega)
  have hrun' : ∀ ty, (Builtin.delete_ #[53, 9] ty #[.map mo, .string k]).run Tryz.prog w.drew = .ok (.tuple #[]) w1 := hrun
  clear hrun
  go_enter Tryz.func96, Tryz.ntmps96
  go_wp2_with fail
  go_region
  all_goals
    go_wp2_with fail
    go_end0
    exact ⟨rfl, mo, hd1, DTouch.pre ((Touch.refl [] w).drew_) ⟨ht1.mono (fun k hk => .inl (List.mem_cons_of_mem _ hk)), fun _ hm => .inl hm⟩⟩

set_option maxRecDepth 10000 in
set_option maxHeartbeats 800000 in
theorem syncDo (w : World) (b n : Nat) (mo : Option Nat) (d : DM.D) (h : DiskAt w b mo n d) (hn : n < 1099511627776) (B0 B1 : Nat) (k : ByteArray)
    (h0 : w.cell? ⟨B0, 0, none⟩ = some (.pointer (some ⟨b, 0, none⟩))) (h1 : w.cell? ⟨B1, 0, none⟩ = some (.string k)) (hk : k.size ≤ 40) :
    Calls Tryz.prog 80 #[.pointer (some ⟨B0, 0, none⟩), .pointer (some ⟨B1, 0, none⟩)] w fun e w' => e = .returned (.tuple #[]) ∧
      ∃ mo', DiskAt w' b mo' (n + 1) { d with fl := DM.put d.fl (nm k) ((DM.getF d.fl (nm k)).1, (DM.getF d.fl (nm k)).1.size) } ∧ DTouch b mo mo' w w' := by
  have c1 := h.c1
  have T0 : Touch [] w (w.alloc emptyFile).drew := ((Touch.refl [] w).alloc _).drew_
  have hd := h.touch T0 (by simp) (by simp)
  have hl1 := MapF.look1 (w := w.drew) h.map k (by unfold maxLen; omega)
  have hl2 := hd.map.look1 k (by unfold maxLen; omega)
  have hfv : fileV (DM.getF d.fl (nm k)) = .agg #[.string (DM.getF d.fl (nm k)).1, .int .i64 ((DM.getF d.fl (nm k)).2 : Int)] := rfl
  rw [hfv] at hl1 hl2
  have hsz := getF_size d.fl (nm k)
  have hsl := DM.sz_le d.fl (nm k)
  have hsm := h.fit.small
  have hup := DM.used_put d.fl (nm k) ((DM.getF d.fl (nm k)).1, (DM.getF d.fl (nm k)).1.size) h.fit.sorted
  obtain ⟨fd, hfd⟩ : ∃ fd, fd = (DM.getF d.fl (nm k)).1 := ⟨_, rfl⟩
  obtain ⟨fl, hfl⟩ : ∃ fl : Nat, fl = (DM.getF d.fl (nm k)).2 := ⟨_, rfl⟩
  rw [← hfd, ← hfl] at hl1 hl2
  rw [← hfd] at hup ⊢
  rw [← hfd] at hsz
  have hu2 : DM.used (DM.put d.fl (nm k) (fd, fd.size)) ≤ 1099511627776 := by omega
  have hset := fun W hW => set_any W b n mo d hW hn k hk (fd, fd.size) (Nat.le_refl _) hu2
  have HSET := Lib.hid hset
  have hfs : (fd.size : Int) ≤ 1099511627776 := by omega
  clear hset hfv hsz hsl hsm hup hfd hfl hu2 hn
  have k0 : ∀ o : Obj, (w.alloc o).cell? ⟨B0, 0, none⟩ = some (.pointer (some ⟨b, 0, none⟩)) := fun o => (World.cell?_of_block (heap_old w o (cell_lt' h0))).trans h0
  have k1 : ∀ o : Obj, (w.alloc o).cell? ⟨B1, 0, none⟩ = some (.string k) := fun o => (World.cell?_of_block (heap_old w o (cell_lt' h1))).trans h1
  have kd : ∀ o : Obj, (w.alloc o).cell? ⟨b, 1, none⟩ = some (.map mo) := fun o => (World.cell?_of_block (heap_old w o (cell_lt' c1))).trans c1
  go_enter Tryz.func80, Tryz.ntmps80
  go_wp2_with fail
  go_region
  all_goals
    go_wp2_with fail
    refine (HSET.out _ (h.touch (((Touch.refl [] w).alloc (.cells #[.string fd, .int .i64 (fd.size : Int)] 66)).drew_) (by simp) (by simp))).mono ?_
    rintro e w2 ⟨rfl, mo', hd2, ht2⟩
    go_wp2_with fail
    go_end0
    exact ⟨rfl, mo', hd2, DTouch.pre (((Touch.refl [] w).alloc _).drew_) ht2⟩

/-- Crash's picks: the next one -/
theorem next_nil (w : World) (B len : Nat) (cap : Nat) (a : Option Addr) (h0 : w.cell? ⟨B, 0, none⟩ = some (.slice a len cap)) (hl : len = 0) :
    Calls Tryz.prog 53 #[.pointer (some ⟨B, 0, none⟩)] w fun e w' => e = .returned (.int .i64 0) ∧ w' = w := by
  subst hl
  go_enter Tryz.func53, Tryz.ntmps53
  go_wp2
  go_ret
  exact ⟨rfl, rfl⟩
theorem next_some (w : World) (B len cap g o : Nat) (p : Int) (h0 : w.cell? ⟨B, 0, none⟩ = some (.slice (some ⟨g, o, none⟩) (len + 1) cap)) (hc : len + 1 ≤ cap) (hm : cap ≤ maxLen) (f0 : w.frozen? ⟨B, 0, none⟩ = false) (hp : w.cell? ⟨g, o, none⟩ = some (.int .i64 p)) :
    Calls Tryz.prog 53 #[.pointer (some ⟨B, 0, none⟩)] w fun e w' => e = .returned (.int .i64 p) ∧ ∃ o', (0 < len → o' = o + 1) ∧ w' = w.setCell ⟨B, 0, none⟩ (.slice (some ⟨g, o', none⟩) len (cap - 1)) := by
  unfold maxLen at hm
  obtain ⟨c, rfl⟩ : ∃ c, cap = c + 1 := ⟨cap - 1, by omega⟩
  by_cases h1 : c = 0
  · obtain rfl : len = 0 := by omega
    subst h1
    go_enter Tryz.func53, Tryz.ntmps53
    go_wp2
    go_ret
    exact ⟨rfl, o, fun h => absurd h (by omega), rfl⟩
  · go_enter Tryz.func53, Tryz.ntmps53
    go_wp2
    go_ret
    exact ⟨rfl, o + 1, fun _ => rfl, rfl⟩
end Go.Proofs.YtmglkhnojimnlaaGreat

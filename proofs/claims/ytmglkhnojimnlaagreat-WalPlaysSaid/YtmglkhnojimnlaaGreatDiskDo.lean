/- Package disk: the closures, and the calls that lean on them. -/
import Derived.Test.YtmglkhnojimnlaaGreatDiskNames
namespace Go.Proofs.YtmglkhnojimnlaaGreat
open Go.RowKit Go.Maps Go.WideMaps
open DM (N F FL Sorted)

/-- an empty file in a new block, as a variable that is about to be filled -/
abbrev emptyFile : Obj := .cells #[.string ⟨#[]⟩, .int .i64 0] 66

/-- DTouch from steps -/
theorem DTouch.of {b : Nat} {mo mo' : Option Nat} {w w1 w2 : World} (h1 : Touch [b] w w1) (h2 : DTouch b mo mo' w1 w2) : DTouch b mo mo' w w2 :=
  ⟨(h1.mono (by simp)).trans h2.1 (fun k hk => .inl hk), fun m hm => (h2.2 m hm).imp id (fun h => Nat.le_trans h1.size h)⟩
theorem DTouch.pre {b : Nat} {mo mo' : Option Nat} {w w1 w2 : World} (h1 : Touch [] w w1) (h2 : DTouch b mo mo' w1 w2) : DTouch b mo mo' w w2 :=
  DTouch.of (h1.mono (by simp)) h2
theorem DTouch.same {b : Nat} {mo : Option Nat} {w w' : World} (h : Touch [b] w w') : DTouch b mo mo w w' := ⟨h.mono (by simp), fun _ hm => .inl hm⟩
theorem DTouch.quiet {b : Nat} {mo : Option Nat} {w w' : World} (h : Touch [] w w') : DTouch b mo mo w w' := ⟨h.mono (by simp), fun _ hm => .inl hm⟩

theorem getF_size (l : FL) (k : N) : (DM.getF l k).1.size = DM.sz (DM.look l k) := by
  unfold DM.getF DM.sz
  cases DM.look l k <;> rfl
theorem Fit.getF {l : FL} {n : Nat} (h : Fit l n) (k : N) : (DM.getF l k).2 ≤ (DM.getF l k).1.size := by
  unfold DM.getF
  cases hl : DM.look l k with
  | none => simp
  | some f => exact (h.each _ (DM.look_mem hl)).1

set_option maxRecDepth 10000 in
set_option maxHeartbeats 800000 in
theorem appendDo (w : World) (b n : Nat) (mo : Option Nat) (d : DM.D) (h : DiskAt w b mo n d) (hn : n < 1099511627776) (B0 B1 B2 : Nat) (k s : ByteArray)
    (h0 : w.cell? ⟨B0, 0, none⟩ = some (.pointer (some ⟨b, 0, none⟩))) (h1 : w.cell? ⟨B1, 0, none⟩ = some (.string k)) (h2 : w.cell? ⟨B2, 0, none⟩ = some (.string s)) (hk : k.size ≤ 40) (hu : DM.used d.fl + s.size ≤ 1099511627776) :
    Calls Tryz.prog 83 #[.pointer (some ⟨B0, 0, none⟩), .pointer (some ⟨B1, 0, none⟩), .pointer (some ⟨B2, 0, none⟩)] w fun e w' => e = .returned (.tuple #[]) ∧
      ∃ mo', DiskAt w' b mo' (n + 1) { d with fl := DM.put d.fl (nm k) ((DM.getF d.fl (nm k)).1 ++ s, (DM.getF d.fl (nm k)).2) } ∧ DTouch b mo mo' w w' := by
  have c1 := h.c1
  have T0 : Touch [] w (w.alloc emptyFile).drew := ((Touch.refl [] w).alloc _).drew_
  have hd := h.touch T0 (by simp) (by simp)
  have hl1 := MapF.look1 (w := w.drew) h.map k (by unfold maxLen; omega)
  have hl2 := hd.map.look1 k (by unfold maxLen; omega)
  have hfv : fileV (DM.getF d.fl (nm k)) = .agg #[.string (DM.getF d.fl (nm k)).1, .int .i64 ((DM.getF d.fl (nm k)).2 : Int)] := rfl
  rw [hfv] at hl1 hl2
  have hsz := getF_size d.fl (nm k)
  have hsl := DM.sz_le d.fl (nm k)
  have hls := h.fit.getF (nm k)
  have hup := DM.used_put d.fl (nm k) ((DM.getF d.fl (nm k)).1 ++ s, (DM.getF d.fl (nm k)).2) h.fit.sorted
  obtain ⟨fd, hfd⟩ : ∃ fd, fd = (DM.getF d.fl (nm k)).1 := ⟨_, rfl⟩
  obtain ⟨fl, hfl⟩ : ∃ fl : Nat, fl = (DM.getF d.fl (nm k)).2 := ⟨_, rfl⟩
  rw [← hfd, ← hfl] at hl1 hl2 hup hls ⊢
  rw [← hfd] at hsz
  have hcat : (fd ++ s).size = fd.size + s.size := ByteArray.size_append
  have hu2 : DM.used (DM.put d.fl (nm k) (fd ++ s, fl)) ≤ 1099511627776 := by simp only [hcat] at hup; omega
  have hf2 : (fd ++ s, fl).2 ≤ (fd ++ s, fl).1.size := by show fl ≤ (fd ++ s).size; omega
  have hset := fun W hW => set_any W b n mo d hW hn k hk (fd ++ s, fl) hf2 hu2
  have HSET := Lib.hid hset
  have hfs : (fd.size : Int) + (s.size : Int) ≤ 1099511627776 := by omega
  clear hset hfv hsz hsl hup hfd hfl hcat hu2 hf2 hls hu hn
  have k0 : ∀ o : Obj, (w.alloc o).cell? ⟨B0, 0, none⟩ = some (.pointer (some ⟨b, 0, none⟩)) := fun o => (World.cell?_of_block (heap_old w o (cell_lt' h0))).trans h0
  have k1 : ∀ o : Obj, (w.alloc o).cell? ⟨B1, 0, none⟩ = some (.string k) := fun o => (World.cell?_of_block (heap_old w o (cell_lt' h1))).trans h1
  have k2 : ∀ o : Obj, (w.alloc o).cell? ⟨B2, 0, none⟩ = some (.string s) := fun o => (World.cell?_of_block (heap_old w o (cell_lt' h2))).trans h2
  have kd : ∀ o : Obj, (w.alloc o).cell? ⟨b, 1, none⟩ = some (.map mo) := fun o => (World.cell?_of_block (heap_old w o (cell_lt' c1))).trans c1
  go_enter Tryz.func83, Tryz.ntmps83
  go_wp2_with fail
  go_region
  all_goals
    go_wp2_with fail
    refine (HSET.out _ (h.touch (((Touch.refl [] w).alloc (.cells #[.string (fd ++ s), .int .i64 (fl : Int)] 66)).drew_) (by simp) (by simp))).mono ?_
    rintro e w2 ⟨rfl, mo', hd2, ht2⟩
    go_wp2_with fail
    go_end0
    exact ⟨rfl, mo', hd2, DTouch.pre (((Touch.refl [] w).alloc _).drew_) ht2⟩
end Go.Proofs.YtmglkhnojimnlaaGreat

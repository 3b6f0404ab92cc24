/- Package disk: Rename's and Cut's closures. -/
import Derived.Test.YtmglkhnojimnlaaGreatDiskDo2
import Derived.Test.YtmglkhnojimnlaaGreatArgs
namespace Go.Proofs.YtmglkhnojimnlaaGreat
open Go.RowKit Go.Maps Go.WideMaps
open DM (N F FL Sorted)

set_option maxRecDepth 10000 in
set_option maxHeartbeats 800000 in
theorem renameDo (w : World) (b n : Nat) (mo : Option Nat) (d : DM.D) (h : DiskAt w b mo n d) (hn : n < 1099511627776) (B0 B1 B2 : Nat) (k m : ByteArray)
    (h0 : w.cell? ⟨B0, 0, none⟩ = some (.pointer (some ⟨b, 0, none⟩))) (h1 : w.cell? ⟨B1, 0, none⟩ = some (.string k)) (h2 : w.cell? ⟨B2, 0, none⟩ = some (.string m)) (hk : k.size ≤ 40) (hm : m.size ≤ 40)
    (hu : (DM.look d.fl (nm k)).isSome = true) (n0 : B0 ∉ mo.toList) (n1 : B1 ∉ mo.toList) (n2 : B2 ∉ mo.toList) :
    Calls Tryz.prog 84 #[.pointer (some ⟨B0, 0, none⟩), .pointer (some ⟨B1, 0, none⟩), .pointer (some ⟨B2, 0, none⟩)] w fun e w' => e = .returned (.tuple #[]) ∧
      ∃ mo', DiskAt w' b mo' (n + 1) { d with fl := DM.put (DM.del d.fl (nm k)) (nm m) (DM.getF d.fl (nm k)) } ∧ DTouch b mo mo' w w' := by
  have c1 := h.c1
  have T0 : Touch [] w (w.alloc emptyFile).drew := ((Touch.refl [] w).alloc _).drew_
  have hd := h.touch T0 (by simp) (by simp)
  have hl1 := MapF.look1 (w := w.drew) h.map k (by unfold maxLen; omega)
  have hl2 := hd.map.look1 k (by unfold maxLen; omega)
  have hfv : fileV (DM.getF d.fl (nm k)) = .agg #[.string (DM.getF d.fl (nm k)).1, .int .i64 ((DM.getF d.fl (nm k)).2 : Int)] := rfl
  rw [hfv] at hl1 hl2
  have hls := h.fit.getF (nm k)
  have hdel := DM.used_del d.fl (nm k) h.fit.sorted
  have hgs := getF_size d.fl (nm k)
  have hup := DM.used_put (DM.del d.fl (nm k)) (nm m) (DM.getF d.fl (nm k)) (DM.sorted_del _ _ h.fit.sorted)
  have hu2 : DM.used (DM.put (DM.del d.fl (nm k)) (nm m) (DM.getF d.fl (nm k))) ≤ 1099511627776 := by have := h.fit.small; omega
  have hset := fun W hW => set_any W b n mo { d with fl := DM.del d.fl (nm k) } hW hn m hm (DM.getF d.fl (nm k)) hls hu2
  have HSET := Lib.hid hset
  rw [hfv] at HSET
  obtain ⟨fd, hfd⟩ : ∃ fd, fd = (DM.getF d.fl (nm k)).1 := ⟨_, rfl⟩
  obtain ⟨fl, hfl⟩ : ∃ fl : Nat, fl = (DM.getF d.fl (nm k)).2 := ⟨_, rfl⟩
  rw [← hfd, ← hfl] at hl1 hl2 HSET
  clear hset hfv hfd hfl hu2 hls hn hdel hgs hup hu
  have k0 : ∀ o : Obj, (w.alloc o).cell? ⟨B0, 0, none⟩ = some (.pointer (some ⟨b, 0, none⟩)) := fun o => (World.cell?_of_block (heap_old w o (cell_lt' h0))).trans h0
  have k1 : ∀ o : Obj, (w.alloc o).cell? ⟨B1, 0, none⟩ = some (.string k) := fun o => (World.cell?_of_block (heap_old w o (cell_lt' h1))).trans h1
  have kd : ∀ o : Obj, (w.alloc o).cell? ⟨b, 1, none⟩ = some (.map mo) := fun o => (World.cell?_of_block (heap_old w o (cell_lt' c1))).trans c1
  go_enter Tryz.func84, Tryz.ntmps84
  go_wp2_with fail
  go_region
  all_goals
    have Ta : Touch [] w (w.alloc (.cells #[.string fd, .int .i64 (fl : Int)] 66)).drew := ((Touch.refl [] w).alloc _).drew_
    have hx : Blk (w.alloc (.cells #[.string fd, .int .i64 (fl : Int)] 66)).drew w.heap.size 66 #[.string fd, .int .i64 (fl : Int)] := (Touch.refl [] _).drew_.blk (Blk.new w _ _) (by simp)
    obtain ⟨w1, hw1⟩ : ∃ w1, w1 = (w.alloc (.cells #[.string fd, .int .i64 (fl : Int)] 66)).drew := ⟨_, rfl⟩
    rw [← hw1] at Ta hx ⊢
    have q0 := Ta.cell h0 (by simp)
    have q1 := Ta.cell h1 (by simp)
    have q2 := Ta.cell h2 (by simp)
    have hd1 := h.touch Ta (by simp) (by simp)
    have qc := hd1.c1
    obtain ⟨w2, hrun, hd2, ht2⟩ := (hd1.drewN 1).drop k (by unfold maxLen; omega)
    have hrun' : ∀ ty, (Builtin.delete_ #[53, 9] ty #[.map mo, .string k]).run Tryz.prog w1.drew = .ok (.tuple #[]) w2 := hrun
    have hT2 : Touch mo.toList w1 w2 := (Touch.drewN [] w1 1 |>.mono (by simp)).trans ht2 (fun k hk => .inl hk)
    have r0 := hT2.cell q0 n0
    have r2 := hT2.cell q2 n2
    have hx2 := hT2.blk hx (by cases mo with | none => simp | some m => have := h.lt_map rfl; simp; omega)
    have x0 := hx2.cell 0
    have x1 := hx2.cell 1
    have hs2 := HSET.out w2 hd2
    have HS2 := Lib.hid hs2
    have H1 := Lib.hid hw1
    clear hrun hs2 hw1 hl1 hl2 k0 k1 kd c1 h0 h1 h2 hd T0 hx hx2
    go_wp2_with fail
    go_region
    all_goals
      go_wp2_with fail
      refine HS2.out.mono ?_
      rintro e w3 ⟨rfl, mo', hd3, ht3⟩
      go_wp2_with fail
      go_end0
      exact ⟨rfl, mo', hd3, DTouch.pre Ta ⟨(hT2.mono (fun k hk => .inl (List.mem_cons_of_mem _ hk))).trans ht3.1 (fun k hk => .inl hk), fun m hm => (ht3.2 m hm).imp id (fun h => Nat.le_trans hT2.size h)⟩⟩

set_option maxRecDepth 10000 in
set_option maxHeartbeats 800000 in
theorem cutDo (w : World) (b n : Nat) (mo : Option Nat) (d : DM.D) (h : DiskAt w b mo n d) (hn : n < 1099511627776) (B0 B1 B2 : Nat) (k : ByteArray) (c : Nat)
    (h0 : w.cell? ⟨B0, 0, none⟩ = some (.pointer (some ⟨b, 0, none⟩))) (h1 : w.cell? ⟨B1, 0, none⟩ = some (.string k)) (h2 : w.cell? ⟨B2, 0, none⟩ = some (.int .i64 c)) (hk : k.size ≤ 40) (hc : c ≤ (DM.getF d.fl (nm k)).1.size) :
    Calls Tryz.prog 78 #[.pointer (some ⟨B0, 0, none⟩), .pointer (some ⟨B1, 0, none⟩), .pointer (some ⟨B2, 0, none⟩)] w fun e w' => e = .returned (.tuple #[]) ∧
      ∃ mo', DiskAt w' b mo' (n + 1) { d with fl := DM.put d.fl (nm k) ((DM.getF d.fl (nm k)).1.extract 0 c, min (DM.getF d.fl (nm k)).2 c) } ∧ DTouch b mo mo' w w' := by
  have c1 := h.c1
  have T0 : Touch [] w (w.alloc emptyFile).drew := ((Touch.refl [] w).alloc _).drew_
  have hd := h.touch T0 (by simp) (by simp)
  have hl1 := MapF.look1 (w := w.drew) h.map k (by unfold maxLen; omega)
  have hl2 := hd.map.look1 k (by unfold maxLen; omega)
  have hfv : fileV (DM.getF d.fl (nm k)) = .agg #[.string (DM.getF d.fl (nm k)).1, .int .i64 ((DM.getF d.fl (nm k)).2 : Int)] := rfl
  rw [hfv] at hl1 hl2
  have hls := h.fit.getF (nm k)
  have hgs := getF_size d.fl (nm k)
  have hsl := DM.sz_le d.fl (nm k)
  have hup := DM.used_put d.fl (nm k) ((DM.getF d.fl (nm k)).1.extract 0 c, min (DM.getF d.fl (nm k)).2 c) h.fit.sorted
  have hex : ((DM.getF d.fl (nm k)).1.extract 0 c).size = c := by rw [ByteArray.size_extract]; omega
  have hu2 : DM.used (DM.put d.fl (nm k) ((DM.getF d.fl (nm k)).1.extract 0 c, min (DM.getF d.fl (nm k)).2 c)) ≤ 1099511627776 := by have := h.fit.small; simp only [hex] at hup; omega
  have hset := fun W hW => set_any W b n mo d hW hn k hk ((DM.getF d.fl (nm k)).1.extract 0 c, min (DM.getF d.fl (nm k)).2 c) (by simp only [hex]; omega) hu2
  have HSET := Lib.hid hset
  have hsz : (DM.getF d.fl (nm k)).1.size ≤ 1099511627776 := by have := h.fit.small; omega
  obtain ⟨fd, hfd⟩ : ∃ fd, fd = (DM.getF d.fl (nm k)).1 := ⟨_, rfl⟩
  obtain ⟨fl, hfl⟩ : ∃ fl : Nat, fl = (DM.getF d.fl (nm k)).2 := ⟨_, rfl⟩
  rw [← hfd, ← hfl] at hl1 hl2 HSET ⊢
  rw [← hfd] at hsz hc
  have hfs : (fd.size : Int) ≤ 1099511627776 := by omega
  rw [← hfd, ← hfl] at hls
  have hfl2 : (fl : Int) ≤ 1099511627776 := by omega
  have hcc : (c : Int) ≤ (fd.size : Int) := by omega
  clear hset hfv hfd hfl hu2 hls hn hex hgs hup hsl hsz hc
  have k0 : ∀ o : Obj, (w.alloc o).cell? ⟨B0, 0, none⟩ = some (.pointer (some ⟨b, 0, none⟩)) := fun o => (World.cell?_of_block (heap_old w o (cell_lt' h0))).trans h0
  have k1 : ∀ o : Obj, (w.alloc o).cell? ⟨B1, 0, none⟩ = some (.string k) := fun o => (World.cell?_of_block (heap_old w o (cell_lt' h1))).trans h1
  have kd : ∀ o : Obj, (w.alloc o).cell? ⟨b, 1, none⟩ = some (.map mo) := fun o => (World.cell?_of_block (heap_old w o (cell_lt' c1))).trans c1
  go_enter Tryz.func78, Tryz.ntmps78
  go_wp2_with fail
  go_region
  all_goals
    have Ta : Touch [] w (w.alloc (.cells #[.string fd, .int .i64 (fl : Int)] 66)).drew := ((Touch.refl [] w).alloc _).drew_
    have hx : Blk (w.alloc (.cells #[.string fd, .int .i64 (fl : Int)] 66)).drew w.heap.size 66 #[.string fd, .int .i64 (fl : Int)] := (Touch.refl [] _).drew_.blk (Blk.new w _ _) (by simp)
    obtain ⟨w1, hw1⟩ : ∃ w1, w1 = (w.alloc (.cells #[.string fd, .int .i64 (fl : Int)] 66)).drew := ⟨_, rfl⟩
    rw [← hw1] at Ta hx ⊢
    have q0 := Ta.cell h0 (by simp)
    have q1 := Ta.cell h1 (by simp)
    have q2 := Ta.cell h2 (by simp)
    have hd1 := (h.touch Ta (by simp) (by simp)).drewN 1
    have x0 := hx.cell 0
    have x1 := hx.cell 1
    have hmin : fileV (fd.extract 0 c, min fl c) = .agg #[.string (fd.extract 0 c), .int .i64 (min (fl : Int) (c : Int))] := by
      unfold fileV
      have : ((min fl c : Nat) : Int) = min (fl : Int) (c : Int) := by omega
      simp only [this]
    have hs2 := HSET.out _ hd1
    rw [hmin] at hs2
    change Calls _ _ _ w1.drew _ at hs2
    have HS2 := Lib.hid hs2
    have H1 := Lib.hid hw1
    clear hw1 hl1 hl2 k0 k1 kd c1 h0 h1 h2 hd T0 hx hmin hs2
    go_wp2_with fail
    go_still_tail 11, (by kernel_rfl)
    change wpList _ _ _ _ _ w1.drew
    go_wp2_with fail
    refine HS2.out.mono ?_
    rintro e w3 ⟨rfl, mo', hd3, ht3⟩
    go_wp2_with fail
    go_end0
    exact ⟨rfl, mo', hd3, DTouch.pre Ta.drew_ ht3⟩
end Go.Proofs.YtmglkhnojimnlaaGreat

/- Package disk: Remove, Read, Append. -/
import Derived.Test.YtmglkhnojimnlaaGreatDiskSync
namespace Go.Proofs.YtmglkhnojimnlaaGreat
open Go.RowKit Go.Maps Go.WideMaps
open DM (N F FL Sorted)

set_option maxRecDepth 10000 in
set_option maxHeartbeats 800000 in
theorem remove_any (w : World) (b n : Nat) (mo : Option Nat) (d : DM.D) (h : DiskAt w b mo n d) (hn : n < 1099511627775) (k : ByteArray) (hk : k.size ≤ maxLen) :
    Calls Tryz.prog 73 #[.pointer (some ⟨b, 0, none⟩), .string k] w (Ends b n mo w (DM.remove d (nm k))) := by
  obtain ⟨w1, hw1⟩ : ∃ w1, w1 = (w.alloc (.cells #[.pointer (some ⟨b, 0, none⟩)] 25)).alloc (.cells #[.string k] 9) := ⟨_, rfl⟩
  have T1 : Touch [] w w1 := by rw [hw1]; exact ((Touch.refl [] w).alloc _).alloc _
  have hB0 : Blk w1 w.heap.size 25 #[.pointer (some ⟨b, 0, none⟩)] := by rw [hw1]; exact (Blk.new w _ _).alloc _
  have hB1 : Blk w1 (w.heap.size + 1) 9 #[.string k] := by rw [hw1]; exact Blk.new' _ _ _ (by simp)
  have hs1 : w1.heap.size = w.heap.size + 2 := by rw [hw1]; simp
  have h1 := h.touch T1 (by simp) (by simp)
  have x0 := hB0.cell 0
  have x1 := hB1.cell 0
  obtain ⟨w2, hw2⟩ : ∃ w2, w2 = w1.drew.alloc (.cells #[.string k] 9) := ⟨_, rfl⟩
  have T2 : Touch [] w1 w2 := by rw [hw2]; exact ((Touch.refl [] w1).drew_).alloc _
  have hB2 : Blk w2 w1.heap.size 9 #[.string k] := by rw [hw2]; exact Blk.new' _ _ _ rfl
  have hmay := may1_any w2 b mo n d (h1.touch T2 (by simp) (by simp)) w1.heap.size k (hB2.cell 0) true hk
  have hb := h.blk.lt
  have hthen : ∀ w3, Touch [] w1 w3 → Calls Tryz.prog 77 #[.pointer (some ⟨b, 0, none⟩), .int .i64 (DM.may1 d true (nm k)), .func (.func 96) #[] #[.pointer (some ⟨w.heap.size, 0, none⟩), .pointer (some ⟨w.heap.size + 1, 0, none⟩)]] w3 (Ends b n mo w3 (DM.remove d (nm k))) := fun w3 T3 => by
    refine then_any w3 b n mo d (h1.touch T3 (by simp) (by simp)) (by omega) _ _ _ _ (fun _ _ => rfl) (fun he w4 d1 hd1 hfl T4 => ?_)
    have hz := may1_zero he
    refine (removeDo w4 b (n + 1) mo d1 hd1 _ _ k (T4.cell (T3.cell x0 (by simp)) (by simp; omega)) (T4.cell (T3.cell x1 (by simp)) (by simp; omega)) hz.2.2.1).mono ?_
    rintro r w5 ⟨hr, mo', hd5, T5⟩
    exact ⟨hr, mo', hd5.mono (m := n + 2) (by omega), T5⟩
  have hml : ∀ m, mo = some m → m < w.heap.size := fun m hm => h.lt_map hm
  have hn0 : w.heap.size ∉ b :: mo.toList := by simp; exact ⟨by omega, fun hm => absurd (hml _ hm) (by omega)⟩
  have hn1 : w.heap.size + 1 ∉ b :: mo.toList := by simp; exact ⟨by omega, fun hm => absurd (hml _ hm) (by omega)⟩
  have HN0 := Lib.hid hn0
  have HN1 := Lib.hid hn1
  clear hn0 hn1 hml
  have HT := Lib.hid hthen
  have HM := Lib.hid hmay
  have y0 := T2.cell x0 (by simp)
  have y1 := T2.cell x1 (by simp)
  rw [hw2] at HM y0 y1
  have HW2 := Lib.hid hw2
  have HW1 := Lib.hid hw1
  have HS1 := Lib.hid hs1
  clear hthen hmay hw2 hs1 hB0 hB1 hB2
  go_enter Tryz.func73, Tryz.ntmps73
  go_wp2_with fail
  rw [← hw1]
  clear hw1
  go_region_held3 (fun w' => w'.cell? ⟨w.heap.size, 0, none⟩ = some (.pointer (some ⟨b, 0, none⟩)) ∧ w'.cell? ⟨w.heap.size + 1, 0, none⟩ = some (.string k)) (first | exact ⟨x0, x1⟩ | exact ⟨y0, y1⟩ | exact ⟨z0, z1⟩ | exact ⟨u0, u1⟩)
    (first
      | (go_at_call 75; refine HM.out.mono ?_; rintro e w3 ⟨rfl, T3⟩; have z0 := T3.cell y0 (by simp); have z1 := T3.cell y1 (by simp))
      | (go_at_call 77; refine (HT.out w3 (T2.trans (HW2.out ▸ T3) (by simp))).mono ?_; rintro e w4 ⟨rfl, mo', hd4, T4⟩; have u0 := T4.1.cell z0 HN0.out; have u1 := T4.1.cell z1 HN1.out))
  all_goals
    go_wp2_with fail
    go_ret
    exact Ends.pre ⟨rfl, mo', hd4, T4⟩ (T1.trans (T2.trans (HW2.out ▸ T3) (by simp)) (by simp))

set_option maxRecDepth 10000 in
set_option maxHeartbeats 800000 in
theorem read_any (w : World) (b n : Nat) (mo : Option Nat) (d : DM.D) (h : DiskAt w b mo n d) (k : ByteArray) (hk : k.size ≤ maxLen) :
    Calls Tryz.prog 41 #[.pointer (some ⟨b, 0, none⟩), .string k] w fun e w' => e = .returned (.tuple #[.string (DM.read d (nm k)).1, .int .i64 (DM.read d (nm k)).2]) ∧ Touch [] w w' := by
  have hB2 : Blk (w.alloc (.cells #[.string k] 9)) w.heap.size 9 #[.string k] := Blk.new _ _ _
  have hmay := may1_any _ b mo n d (h.touch ((Touch.refl [] w).alloc (.cells #[.string k] 9)) (by simp) (by simp)) w.heap.size k (hB2.cell 0) true hk
  have HM := Lib.hid hmay
  by_cases he : DM.may1 d true (nm k) = 0
  · have hr : DM.read d (nm k) = ((DM.getF d.fl (nm k)).1, 0) := by unfold DM.read; rw [if_pos he]
    rw [hr]
    rw [he] at HM
    have hfv : fileV (DM.getF d.fl (nm k)) = .agg #[.string (DM.getF d.fl (nm k)).1, .int .i64 ((DM.getF d.fl (nm k)).2 : Int)] := rfl
    obtain ⟨fd, hfd⟩ : ∃ fd, fd = (DM.getF d.fl (nm k)).1 := ⟨_, rfl⟩
    obtain ⟨fl, hfl⟩ : ∃ fl : Nat, fl = (DM.getF d.fl (nm k)).2 := ⟨_, rfl⟩
    rw [← hfd, ← hfl] at hfv
    rw [← hfd]
    have HFV := Lib.hid hfv
    clear hmay hr he hfv hfd hfl
    go_enter Tryz.func41, Tryz.ntmps41
    go_wp2_with fail
    refine HM.out.mono ?_
    rintro e w2 ⟨rfl, T2⟩
    have T2' := ((Touch.refl [] w).alloc (.cells #[.string k] 9)).trans T2 (by simp)
    have h2 := h.touch T2' (by simp) (by simp)
    have c1 := h2.c1
    have hl1 := MapF.look1 h2.map k hk
    rw [HFV.out] at hl1
    have hfld := field0
    go_wp2
    go_ret2
    exact ⟨rfl, T2'⟩
  · have hr : DM.read d (nm k) = (⟨#[]⟩, DM.may1 d true (nm k)) := by unfold DM.read; rw [if_neg he]
    rw [hr]
    obtain ⟨e0, he0⟩ : ∃ e0, e0 = DM.may1 d true (nm k) := ⟨_, rfl⟩
    rw [← he0] at HM he ⊢
    have he' : (e0 == 0) = false := by simpa using he
    clear hmay hr he he0
    go_enter Tryz.func41, Tryz.ntmps41
    go_wp2_with fail
    refine HM.out.mono ?_
    rintro e w2 ⟨rfl, T2⟩
    go_wp2
    go_ret2
    exact ⟨rfl, ((Touch.refl [] w).alloc (.cells #[.string k] 9)).trans T2 (by simp)⟩
theorem read_nil (w : World) (k : ByteArray) :
    Calls Tryz.prog 41 #[.pointer none, .string k] w fun e w' => e = .returned (.tuple #[.string ⟨#[]⟩, .int .i64 14]) ∧ Touch [] w w' := by
  go_enter Tryz.func41, Tryz.ntmps41
  go_wp2_with fail
  refine (may1_nil _ _ _).mono ?_
  rintro e w2 ⟨rfl, rfl⟩
  go_wp2
  go_ret2
  exact ⟨rfl, (Touch.refl [] w).alloc _⟩
end Go.Proofs.YtmglkhnojimnlaaGreat

/- Package disk: Rename. -/
import Derived.Test.YtmglkhnojimnlaaGreatDiskRen
namespace Go.Proofs.YtmglkhnojimnlaaGreat
open Go.RowKit Go.Maps Go.WideMaps
open DM (N F FL Sorted)

theorem may2_zero {d : DM.D} {s m : ByteArray} (h : DM.may2 d (nm s) (nm m) = 0) : s.size ≤ 40 ∧ m.size ≤ 40 ∧ (DM.look d.fl (nm s)).isSome = true := by
  unfold DM.may2 at h
  split at h
  · cases h
  · split at h
    · cases h
    · rename_i hb
      rw [bad_iff, bad_iff] at hb
      have hb2 : ¬ 40 < s.size := fun h => hb (by rw [decide_eq_true h]; simp)
      have hb4 : ¬ 40 < m.size := fun h => hb (by rw [decide_eq_true h]; simp)
      refine ⟨by omega, by omega, ?_⟩
      split at h
      · cases h
      · rename_i h2
        cases hl : DM.look d.fl (nm s) with
        | none => rw [hl] at h2; exact absurd rfl h2
        | some f => rfl

set_option maxRecDepth 10000 in
set_option maxHeartbeats 800000 in
theorem rename_any (w : World) (b n : Nat) (mo : Option Nat) (d : DM.D) (h : DiskAt w b mo n d) (hn : n < 1099511627775) (k m : ByteArray) (hk : k.size ≤ maxLen) (hm : m.size ≤ maxLen) :
    Calls Tryz.prog 58 #[.pointer (some ⟨b, 0, none⟩), .string k, .string m] w (Ends b n mo w (DM.rename d (nm k) (nm m))) := by
  obtain ⟨w1, hw1⟩ : ∃ w1, w1 = ((w.alloc (.cells #[.pointer (some ⟨b, 0, none⟩)] 25)).alloc (.cells #[.string k] 9)).alloc (.cells #[.string m] 9) := ⟨_, rfl⟩
  have T1 : Touch [] w w1 := by rw [hw1]; exact (((Touch.refl [] w).alloc _).alloc _).alloc _
  have hB0 : Blk w1 w.heap.size 25 #[.pointer (some ⟨b, 0, none⟩)] := by rw [hw1]; exact ((Blk.new w _ _).alloc _).alloc _
  have hB1 : Blk w1 (w.heap.size + 1) 9 #[.string k] := by rw [hw1]; exact (Blk.new' _ _ _ (by simp)).alloc _
  have hB2 : Blk w1 (w.heap.size + 1 + 1) 9 #[.string m] := by rw [hw1]; exact Blk.new' _ _ _ (by simp)
  have hs1 : w1.heap.size = w.heap.size + 1 + 1 + 1 := by rw [hw1]; simp
  have h1 := h.touch T1 (by simp) (by simp)
  have x0 := hB0.cell 0
  have x1 := hB1.cell 0
  have x2 := hB2.cell 0
  obtain ⟨w2, hw2⟩ : ∃ w2, w2 = w1.drew.alloc (.cells #[.string k, .string m] 9) := ⟨_, rfl⟩
  have T2 : Touch [] w1 w2 := by rw [hw2]; exact ((Touch.refl [] w1).drew_).alloc _
  have hB3 : Blk w2 w1.heap.size 9 #[.string k, .string m] := by rw [hw2]; exact Blk.new' _ _ _ rfl
  have hmay := may2_any w2 b mo n d (h1.touch T2 (by simp) (by simp)) w1.heap.size k m (hB3.cell 0) (hB3.cell 1) hk hm
  have hb := h.blk.lt
  have hml : ∀ m, mo = some m → m < w.heap.size := fun m hm => h.lt_map hm
  have hthen : ∀ w3, Touch [] w1 w3 → Calls Tryz.prog 77 #[.pointer (some ⟨b, 0, none⟩), .int .i64 (DM.may2 d (nm k) (nm m)), .func (.func 84) #[] #[.pointer (some ⟨w.heap.size, 0, none⟩), .pointer (some ⟨w.heap.size + 1, 0, none⟩), .pointer (some ⟨w.heap.size + 1 + 1, 0, none⟩)]] w3 (Ends b n mo w3 (DM.rename d (nm k) (nm m))) := fun w3 T3 => by
    refine then_any w3 b n mo d (h1.touch T3 (by simp) (by simp)) (by omega) _ _ _ _ (fun _ _ => rfl) (fun he w4 d1 hd1 hfl T4 => ?_)
    have hz := may2_zero he
    exact renameDo w4 b (n + 1) mo d1 hd1 (by omega) _ _ _ k m (T4.cell (T3.cell x0 (by simp)) (by simp; omega)) (T4.cell (T3.cell x1 (by simp)) (by simp; omega)) (T4.cell (T3.cell x2 (by simp)) (by simp; omega)) hz.1 hz.2.1 (by rw [hfl]; exact hz.2.2)
      (by simp; exact fun h => absurd (hml _ h) (by omega)) (by simp; exact fun h => absurd (hml _ h) (by omega)) (by simp; exact fun h => absurd (hml _ h) (by omega))
  have hn0 : w.heap.size ∉ b :: mo.toList := by simp; exact ⟨by omega, fun hm => absurd (hml _ hm) (by omega)⟩
  have hn1 : w.heap.size + 1 ∉ b :: mo.toList := by simp; exact ⟨by omega, fun hm => absurd (hml _ hm) (by omega)⟩
  have hn2 : w.heap.size + 1 + 1 ∉ b :: mo.toList := by simp; exact ⟨by omega, fun hm => absurd (hml _ hm) (by omega)⟩
  have HN0 := Lib.hid hn0
  have HN1 := Lib.hid hn1
  have HN2 := Lib.hid hn2
  clear hn0 hn1 hn2 hml
  have HT := Lib.hid hthen
  have HM := Lib.hid hmay
  have y0 := T2.cell x0 (by simp)
  have y1 := T2.cell x1 (by simp)
  have y2 := T2.cell x2 (by simp)
  rw [hw2] at HM y0 y1 y2
  have HW2 := Lib.hid hw2
  have HW1 := Lib.hid hw1
  have HS1 := Lib.hid hs1
  clear hthen hmay hw2 hs1 hB0 hB1 hB2 hB3
  go_enter Tryz.func58, Tryz.ntmps58
  go_wp2_with fail
  rw [← hw1]
  clear hw1
  go_region_held3 (fun w' => w'.cell? ⟨w.heap.size, 0, none⟩ = some (.pointer (some ⟨b, 0, none⟩)) ∧ w'.cell? ⟨w.heap.size + 1, 0, none⟩ = some (.string k) ∧ w'.cell? ⟨w.heap.size + 1 + 1, 0, none⟩ = some (.string m)) (first | exact ⟨x0, x1, x2⟩ | exact ⟨y0, y1, y2⟩ | exact ⟨z0, z1, z2⟩ | exact ⟨u0, u1, u2⟩)
    (first
      | (go_at_call 75; refine HM.out.mono ?_; rintro e w3 ⟨rfl, T3⟩; have z0 := T3.cell y0 (by simp); have z1 := T3.cell y1 (by simp); have z2 := T3.cell y2 (by simp))
      | (go_at_call 77; refine (HT.out w3 (T2.trans (HW2.out ▸ T3) (by simp))).mono ?_; rintro e w4 ⟨rfl, mo', hd4, T4⟩; have u0 := T4.1.cell z0 HN0.out; have u1 := T4.1.cell z1 HN1.out; have u2 := T4.1.cell z2 HN2.out))
  all_goals
    go_wp2_with fail
    go_ret
    exact Ends.pre ⟨rfl, mo', hd4, T4⟩ (T1.trans (T2.trans (HW2.out ▸ T3) (by simp)) (by simp))

/-- of no disk nothing comes -/
theorem sync_nil (w : World) (k : ByteArray) : Calls Tryz.prog 47 #[.pointer none, .string k] w fun e w' => e = .returned (.int .i64 14) ∧ Touch [] w w' := by
  obtain ⟨w1, hw1⟩ : ∃ w1, w1 = (w.alloc (.cells #[.pointer none] 25)).alloc (.cells #[.string k] 9) := ⟨_, rfl⟩
  have T1 : Touch [] w w1 := by rw [hw1]; exact ((Touch.refl [] w).alloc _).alloc _
  have hB0 : Blk w1 w.heap.size 25 #[.pointer none] := by rw [hw1]; exact (Blk.new w _ _).alloc _
  have hB1 : Blk w1 (w.heap.size + 1) 9 #[.string k] := by rw [hw1]; exact Blk.new' _ _ _ (by simp)
  have x0 := hB0.cell 0
  have x1 := hB1.cell 0
  have T2 : Touch [] w1 (w1.drew.alloc (.cells #[.string k] 9)) := ((Touch.refl [] w1).drew_).alloc _
  have y0 := T2.cell x0 (by simp)
  have y1 := T2.cell x1 (by simp)
  clear hB0 hB1
  go_enter Tryz.func47, Tryz.ntmps47
  go_wp2_with fail
  rw [← hw1]
  clear hw1
  go_region_held3 (fun w' => w'.cell? ⟨w.heap.size, 0, none⟩ = some (.pointer none) ∧ w'.cell? ⟨w.heap.size + 1, 0, none⟩ = some (.string k)) (first | exact ⟨x0, x1⟩ | exact ⟨y0, y1⟩)
    (first
      | (go_at_call 75; refine (may1_nil _ _ _).mono ?_; rintro e w3 ⟨rfl, rfl⟩)
      | (go_at_call 77; refine (then_err _ none 14 _ (by simp)).mono ?_; rintro e w4 ⟨rfl, rfl⟩))
  all_goals
    go_wp2_with fail
    go_ret
    exact ⟨rfl, T1.trans T2 (by simp)⟩
theorem remove_nil (w : World) (k : ByteArray) : Calls Tryz.prog 73 #[.pointer none, .string k] w fun e w' => e = .returned (.int .i64 14) ∧ Touch [] w w' := by
  obtain ⟨w1, hw1⟩ : ∃ w1, w1 = (w.alloc (.cells #[.pointer none] 25)).alloc (.cells #[.string k] 9) := ⟨_, rfl⟩
  have T1 : Touch [] w w1 := by rw [hw1]; exact ((Touch.refl [] w).alloc _).alloc _
  have hB0 : Blk w1 w.heap.size 25 #[.pointer none] := by rw [hw1]; exact (Blk.new w _ _).alloc _
  have hB1 : Blk w1 (w.heap.size + 1) 9 #[.string k] := by rw [hw1]; exact Blk.new' _ _ _ (by simp)
  have x0 := hB0.cell 0
  have x1 := hB1.cell 0
  have T2 : Touch [] w1 (w1.drew.alloc (.cells #[.string k] 9)) := ((Touch.refl [] w1).drew_).alloc _
  have y0 := T2.cell x0 (by simp)
  have y1 := T2.cell x1 (by simp)
  clear hB0 hB1
  go_enter Tryz.func73, Tryz.ntmps73
  go_wp2_with fail
  rw [← hw1]
  clear hw1
  go_region_held3 (fun w' => w'.cell? ⟨w.heap.size, 0, none⟩ = some (.pointer none) ∧ w'.cell? ⟨w.heap.size + 1, 0, none⟩ = some (.string k)) (first | exact ⟨x0, x1⟩ | exact ⟨y0, y1⟩)
    (first
      | (go_at_call 75; refine (may1_nil _ _ _).mono ?_; rintro e w3 ⟨rfl, rfl⟩)
      | (go_at_call 77; refine (then_err _ none 14 _ (by simp)).mono ?_; rintro e w4 ⟨rfl, rfl⟩))
  all_goals
    go_wp2_with fail
    go_ret
    exact ⟨rfl, T1.trans T2 (by simp)⟩
end Go.Proofs.YtmglkhnojimnlaaGreat

/- Package disk: Sync, Remove, Read. -/
import Derived.Test.YtmglkhnojimnlaaGreatDiskDo3
import Derived.Test.YtmglkhnojimnlaaGreatDiskMay
import Derived.Deep.RegionHeld3
namespace Go.Proofs.YtmglkhnojimnlaaGreat
open Go.RowKit Go.Maps Go.WideMaps
open DM (N F FL Sorted)

theorem DiskAt.mono {w : World} {b n m : Nat} {mo : Option Nat} {d : DM.D} (h : DiskAt w b mo n d) (hnm : n ≤ m) : DiskAt w b mo m d :=
  h.own (Touch.refl [b] w) h.blk h.room h.left ⟨h.done.1, by have := h.done.2; omega⟩ rfl hnm

/-- how a call that does a step ends -/
def Ends (b n : Nat) (mo : Option Nat) (w : World) (r : Int × DM.D) (e : Ending) (w' : World) : Prop :=
  e = .returned (.int .i64 r.1) ∧ ∃ mo', DiskAt w' b mo' (n + 2) r.2 ∧ DTouch b mo mo' w w'
theorem Ends.pre {b n : Nat} {mo : Option Nat} {w w1 w' : World} {r : Int × DM.D} {e : Ending} (h : Ends b n mo w1 r e w') (ht : Touch [] w w1) : Ends b n mo w r e w' := by
  obtain ⟨h1, mo', h2, h3⟩ := h
  exact ⟨h1, mo', h2, DTouch.pre ht h3⟩

theorem then_any (w : World) (b n : Nat) (mo : Option Nat) (d : DM.D) (h : DiskAt w b mo n d) (hn : n < 1099511627776) (g : Nat) (cb : Array Value) (e : Int) (f : FL → FL)
    (eg : ∀ args w, (callFunc g args).run Tryz.prog w = .ok (.enter g args) w)
    (hdo : e = 0 → ∀ w1 d1, DiskAt w1 b mo (n + 1) d1 → d1.fl = d.fl → Touch [b] w w1 → Calls Tryz.prog g cb w1 fun r w' => r = .returned (.tuple #[]) ∧ ∃ mo', DiskAt w' b mo' (n + 2) { d1 with fl := f d1.fl } ∧ DTouch b mo mo' w1 w') :
    Calls Tryz.prog 77 #[.pointer (some ⟨b, 0, none⟩), .int .i64 e, .func (.func g) #[] cb] w (Ends b n mo w (DM.thn d e f)) := by
  by_cases he : e = 0
  · subst he
    by_cases hl : d.left = 1
    · refine (then_off w b mo n d h hn _ hl).mono ?_
      rintro r w' ⟨rfl, hd, ht⟩
      have hs : DM.step d = (14, { d with off := true }) := by unfold DM.step; rw [if_pos hl]
      have ht2 : DM.thn d 0 f = (14, { d with off := true }) := by unfold DM.thn; rw [if_pos rfl, hs]; rfl
      rw [ht2]
      exact ⟨rfl, mo, hd.mono (m := n + 2) (by omega), DTouch.same ht⟩
    · have hs : (DM.step d).1 = 0 := by unfold DM.step; rw [if_neg hl]
      have hfl : (DM.step d).2.fl = d.fl := by unfold DM.step; rw [if_neg hl]
      have ht2 : DM.thn d 0 f = (0, { (DM.step d).2 with fl := f (DM.step d).2.fl }) := by unfold DM.thn; rw [if_pos rfl, if_pos hs]
      rw [ht2]
      refine (then_do w b mo n d h hn g cb hl (fun w1 w' => ∃ mo', DiskAt w' b mo' (n + 2) { (DM.step d).2 with fl := f (DM.step d).2.fl } ∧ DTouch b mo mo' w1 w') eg (fun w1 hd ht => hdo rfl w1 _ hd hfl ht)).mono ?_
      rintro r w' ⟨rfl, w1, ht, mo', hd, ht'⟩
      exact ⟨rfl, mo', hd, DTouch.of ht ht'⟩
  · refine (then_err w _ e _ he).mono ?_
    rintro r w' ⟨rfl, rfl⟩
    have ht2 : DM.thn d e f = (e, d) := by unfold DM.thn; rw [if_neg he]
    rw [ht2]
    exact ⟨rfl, mo, h.mono (m := n + 2) (by omega), DTouch.quiet (Touch.refl _ _)⟩

theorem may1_zero {d : DM.D} {t : Bool} {s : ByteArray} (h : DM.may1 d t (nm s) = 0) : d.off = false ∧ 0 < s.size ∧ s.size ≤ 40 ∧ (t = true → (DM.look d.fl (nm s)).isSome = true) := by
  unfold DM.may1 at h
  split at h
  · cases h
  · rename_i ho
    split at h
    · cases h
    · rename_i hb
      rw [bad_iff] at hb
      have hb1 : ¬ s.size = 0 := fun h => hb (by rw [decide_eq_true h]; rfl)
      have hb2 : ¬ 40 < s.size := fun h => hb (by rw [decide_eq_true h, Bool.or_true])
      refine ⟨by simpa using ho, by omega, by omega, fun ht => ?_⟩
      split at h
      · cases h
      · rename_i h2
        simp [ht] at h2
        cases hl : DM.look d.fl (nm s) with
        | none => exact absurd hl h2
        | some f => rfl

set_option maxRecDepth 10000 in
set_option maxHeartbeats 800000 in
theorem sync_any (w : World) (b n : Nat) (mo : Option Nat) (d : DM.D) (h : DiskAt w b mo n d) (hn : n < 1099511627775) (k : ByteArray) (hk : k.size ≤ maxLen) :
    Calls Tryz.prog 47 #[.pointer (some ⟨b, 0, none⟩), .string k] w (Ends b n mo w (DM.sync d (nm k))) := by
  obtain ⟨w1, hw1⟩ : ∃ w1, w1 = (w.alloc (.cells #[.pointer (some ⟨b, 0, none⟩)] 25)).alloc (.cells #[.string k] 9) := ⟨_, rfl⟩
  have T1 : Touch [] w w1 := by rw [hw1]; exact ((Touch.refl [] w).alloc _).alloc _
  have hB0 : Blk w1 w.heap.size 25 #[.pointer (some ⟨b, 0, none⟩)] := by rw [hw1]; exact (Blk.new w _ _).alloc _
  have hB1 : Blk w1 (w.heap.size + 1) 9 #[.string k] := by rw [hw1]; exact Blk.new' _ _ _ (by simp)
  have hs1 : w1.heap.size = w.heap.size + 2 := by rw [hw1]; simp
  have h1 := h.touch T1 (by simp) (by simp)
  have x0 := hB0.cell 0
  have x1 := hB1.cell 0
  obtain ⟨w2, hw2⟩ : ∃ w2, w2 = w1.drew.alloc (.cells #[.string k] 9) := ⟨_, rfl⟩
  have T2 : Touch [] w1 w2 := by rw [hw2]; exact ((Touch.refl [] w1).drew_).alloc _
  have hB2 : Blk w2 w1.heap.size 9 #[.string k] := by rw [hw2]; exact Blk.new' _ _ _ rfl
  have hmay := may1_any w2 b mo n d (h1.touch T2 (by simp) (by simp)) w1.heap.size k (hB2.cell 0) true hk
  have hb := h.blk.lt
  have hthen : ∀ w3, Touch [] w1 w3 → Calls Tryz.prog 77 #[.pointer (some ⟨b, 0, none⟩), .int .i64 (DM.may1 d true (nm k)), .func (.func 80) #[] #[.pointer (some ⟨w.heap.size, 0, none⟩), .pointer (some ⟨w.heap.size + 1, 0, none⟩)]] w3 (Ends b n mo w3 (DM.sync d (nm k))) := fun w3 T3 => by
    refine then_any w3 b n mo d (h1.touch T3 (by simp) (by simp)) (by omega) _ _ _ _ (fun _ _ => rfl) (fun he w4 d1 hd1 hfl T4 => ?_)
    have hz := may1_zero he
    exact syncDo w4 b (n + 1) mo d1 hd1 (by omega) _ _ k (T4.cell (T3.cell x0 (by simp)) (by simp; omega)) (T4.cell (T3.cell x1 (by simp)) (by simp; omega)) hz.2.2.1
  have hml : ∀ m, mo = some m → m < w.heap.size := fun m hm => h.lt_map hm
  have hn0 : w.heap.size ∉ b :: mo.toList := by simp; exact ⟨by omega, fun hm => absurd (hml _ hm) (by omega)⟩
  have hn1 : w.heap.size + 1 ∉ b :: mo.toList := by simp; exact ⟨by omega, fun hm => absurd (hml _ hm) (by omega)⟩
  have HN0 := Lib.hid hn0
  have HN1 := Lib.hid hn1
  clear hn0 hn1 hml
  have HT := Lib.hid hthen
  have HM := Lib.hid hmay
  have y0 := T2.cell x0 (by simp)
  have y1 := T2.cell x1 (by simp)
  rw [hw2] at HM y0 y1
  have HW2 := Lib.hid hw2
  have HW1 := Lib.hid hw1
  have HS1 := Lib.hid hs1
  clear hthen hmay hw2 hs1 hB0 hB1 hB2
  go_enter Tryz.func47, Tryz.ntmps47
  go_wp2_with fail
  rw [← hw1]
  clear hw1
  go_region_held3 (fun w' => w'.cell? ⟨w.heap.size, 0, none⟩ = some (.pointer (some ⟨b, 0, none⟩)) ∧ w'.cell? ⟨w.heap.size + 1, 0, none⟩ = some (.string k)) (first | exact ⟨x0, x1⟩ | exact ⟨y0, y1⟩ | exact ⟨z0, z1⟩ | exact ⟨u0, u1⟩)
    (first
      | (go_at_call 75; refine HM.out.mono ?_; rintro e w3 ⟨rfl, T3⟩; have z0 := T3.cell y0 (by simp); have z1 := T3.cell y1 (by simp))
      | (go_at_call 77; refine (HT.out w3 (T2.trans (HW2.out ▸ T3) (by simp))).mono ?_; rintro e w4 ⟨rfl, mo', hd4, T4⟩; have u0 := T4.1.cell z0 HN0.out; have u1 := T4.1.cell z1 HN1.out))
  all_goals
    go_wp2_with fail
    go_ret
    exact Ends.pre ⟨rfl, mo', hd4, T4⟩ (T1.trans (T2.trans (HW2.out ▸ T3) (by simp)) (by simp))
end Go.Proofs.YtmglkhnojimnlaaGreat

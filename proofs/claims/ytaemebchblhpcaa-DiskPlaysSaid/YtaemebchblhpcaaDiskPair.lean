/- Both disks, side by side. -/
import Derived.Test.YtaemebchblhpcaaDiskRef5
import Derived.Test.YtaemebchblhpcaaDiskGood
namespace Go.Proofs.Ytaemebchblhpcaa
open Go.RowKit Go.Maps Go.WideMaps
open DM (N F FL Sorted)

/-- blocks of other types are as they were -/
def Keep (w w' : World) : Prop := ∀ g t cs, Blk w g t cs → t ≠ 59 → t ≠ 52 → t ≠ 54 → Blk w' g t cs
theorem Keep.trans {w w' w'' : World} (h : Keep w w') (h' : Keep w' w'') : Keep w w'' := fun g t cs hb h1 h2 h3 => h' g t cs (h g t cs hb h1 h2 h3) h1 h2 h3
theorem Keep.quiet {w w' : World} (h : Touch [] w w') : Keep w w' := fun _ _ _ hb _ _ _ => h.blk hb (by simp)
theorem Keep.disk {w w' : World} {b n : Nat} {mo : Option Nat} {d : DM.D} (hd : DiskAt w b mo n d) (h : Touch (b :: mo.toList) w w') : Keep w w' := fun g t cs hb h1 h2 h3 => h.blk hb (by
  simp only [List.mem_cons, not_or]
  refine ⟨hb.ne_type hd.blk h1, fun hm => ?_⟩
  simp at hm
  rcases hd.map with ⟨h9, _⟩ | ⟨mb, Dm, h9, ⟨es, clock, hh, _⟩, _⟩
  · rw [h9] at hm; cases hm
  · rw [h9] at hm
    cases hm
    exact hb.ne_map hh rfl)
theorem RefAt.rowBlk {w : World} {B r n : Nat} {v : Value} {d : DM.D} (h : RefAt w B r v n d) {g : Nat} (hg : v.ownBlock = some g) : B ≤ g ∧ ∃ cur, Blk w g 54 cur := by
  obtain ⟨a, cap, hv, _, _, h0, hop⟩ := h.open
  cases a with
  | none => rw [hv] at hg; cases hg
  | some ad =>
    obtain ⟨g', o, sp⟩ := ad
    obtain ⟨_, _, hgg, hB, ⟨cur, hcur, _⟩, _⟩ := hop g' o sp rfl
    rw [hgg] at hg
    cases hg
    exact ⟨hB, cur, hcur⟩
theorem Keep.ref {w w' : World} {B r n : Nat} {v : Value} {d : DM.D} (hr : RefAt w B r v n d) (h : Touch (r :: v.ownBlock.toList) w w') : Keep w w' := fun g t cs hb h1 h2 h3 => h.blk hb (by
  simp only [List.mem_cons, not_or]
  obtain ⟨_, _, hrb, _⟩ := hr.blk
  refine ⟨hb.ne_type hrb h2, fun hm => ?_⟩
  simp at hm
  obtain ⟨_, cur, hcur⟩ := hr.rowBlk hm
  exact hb.ne_type hcur h3 rfl)
/-- the two lie apart -/
theorem apart {w : World} {b n : Nat} {mo : Option Nat} {d : DM.D} (hd : DiskAt w b mo n d) {B r m : Nat} {v : Value} {d' : DM.D} (hr : RefAt w B r v m d') :
    r ∉ b :: mo.toList ∧ (∀ g, v.ownBlock = some g → g ∉ b :: mo.toList) ∧ b ∉ r :: v.ownBlock.toList ∧ (∀ q, mo = some q → q ∉ r :: v.ownBlock.toList) := by
  obtain ⟨_, _, hrb, _⟩ := hr.blk
  have hmap : ∀ q, mo = some q → ∀ g t cs, Blk w g t cs → g ≠ q := fun q hq g t cs hb => by
    rcases hd.map with ⟨h9, _⟩ | ⟨mb, Dm, h9, ⟨es, clock, hh, _⟩, _⟩
    · rw [h9] at hq; cases hq
    · rw [h9] at hq
      cases hq
      exact hb.ne_map hh
  have hrow : ∀ g, v.ownBlock = some g → ∃ cur, Blk w g 54 cur := fun g hg => (hr.rowBlk hg).2
  have e1 : r ≠ b := hrb.ne_type hd.blk (by decide)
  refine ⟨?_, fun g hg => ?_, ?_, fun q hq => ?_⟩
  · simp only [List.mem_cons, not_or]
    exact ⟨e1, fun hm => by simp at hm; exact hmap r hm r _ _ hrb rfl⟩
  · obtain ⟨cur, hcur⟩ := hrow g hg
    simp only [List.mem_cons, not_or]
    exact ⟨hcur.ne_type hd.blk (by decide), fun hm => by simp at hm; exact hmap g hm g _ _ hcur rfl⟩
  · simp only [List.mem_cons, not_or]
    refine ⟨e1.symm, fun hm => ?_⟩
    simp at hm
    obtain ⟨cur, hcur⟩ := hrow b hm
    exact hcur.ne_type hd.blk (by decide) rfl
  · simp only [List.mem_cons, not_or]
    refine ⟨fun e => hmap q hq r _ _ hrb e.symm, fun hm => ?_⟩
    simp at hm
    obtain ⟨cur, hcur⟩ := hrow q hm
    exact hmap q hq q _ _ hcur rfl

def Pair (w0 w : World) (b r n m : Nat) (d d' : DM.D) : Prop := ∃ mo v, DiskAt w b mo n d ∧ RefAt w w0.heap.size r v m d' ∧ Touch [] w0 w ∧ w0.heap.size ≤ b ∧ (∀ q, mo = some q → w0.heap.size ≤ q) ∧ w0.heap.size ≤ r
section
variable {w0 w w' : World} {b r n m : Nat} {d d' : DM.D}
theorem Pair.T (h : Pair w0 w b r n m d d') : Touch [] w0 w := by
  obtain ⟨_, _, _, _, T, _⟩ := h
  exact T
theorem Pair.touch (h : Pair w0 w b r n m d d') (ht : Touch [] w w') : Pair w0 w' b r n m d d' := by
  obtain ⟨mo, v, hd, hr, T, h1, h2, h3⟩ := h
  exact ⟨mo, v, hd.touch ht (by simp) (by simp), hr.touch ht (by simp) (by simp), T.trans ht (by simp), h1, h2, h3⟩
theorem Pair.left {n' : Nat} {d1 : DM.D} {mo mo' : Option Nat} {v : Value} (hd : DiskAt w b mo n d) (hr : RefAt w w0.heap.size r v m d') (T : Touch [] w0 w) (h1 : w0.heap.size ≤ b) (h2 : ∀ q, mo = some q → w0.heap.size ≤ q) (h3 : w0.heap.size ≤ r)
    (hd' : DiskAt w' b mo' n' d1) (ht : DTouch b mo mo' w w') : Pair w0 w' b r n' m d1 d' ∧ Keep w w' := by
  obtain ⟨a1, a2, _, _⟩ := apart hd hr
  refine ⟨⟨mo', v, hd', hr.touch ht.1 a1 a2, T.trans ht.1 (fun k hk => ?_), h1, fun q hq => ?_, h3⟩, Keep.disk hd ht.1⟩
  · rcases List.mem_cons.1 hk with rfl | hk
    · exact .inr h1
    · simp at hk; exact .inr (h2 k hk)
  · rcases ht.2 q hq with h9 | h9
    · exact h2 q h9
    · exact Nat.le_trans T.size h9
theorem Pair.right {m' : Nat} {d1 : DM.D} {mo : Option Nat} {v v' : Value} (hd : DiskAt w b mo n d) (hr : RefAt w w0.heap.size r v m d') (T : Touch [] w0 w) (h1 : w0.heap.size ≤ b) (h2 : ∀ q, mo = some q → w0.heap.size ≤ q) (h3 : w0.heap.size ≤ r)
    (hr' : RefAt w' w0.heap.size r v' m' d1) (ht : Touch (r :: v.ownBlock.toList) w w') : Pair w0 w' b r n m' d d1 ∧ Keep w w' := by
  obtain ⟨_, _, a3, a4⟩ := apart hd hr
  refine ⟨⟨mo, v', hd.touch ht a3 a4, hr', T.trans ht (fun k hk => ?_), h1, h2, h3⟩, Keep.ref hr ht⟩
  rcases List.mem_cons.1 hk with rfl | hk
  · exact .inr h3
  · simp at hk; exact .inr (hr.rowBlk hk).1
theorem Pair.call {fn : Nat} {args : Array Value} {R : Int × DM.D} (h : Pair w0 w b r n m d d') (hc : ∀ mo, DiskAt w b mo n d → Calls Try.prog fn args w (Ends b n mo w R)) :
    Calls Try.prog fn args w fun e w' => e = .returned (.int .i64 R.1) ∧ Pair w0 w' b r (n + 2) m R.2 d' ∧ Keep w w' := by
  obtain ⟨mo, v, hd, hr, T, h1, h2, h3⟩ := h
  refine (hc mo hd).mono ?_
  rintro e w' ⟨rfl, mo', hd', ht⟩
  obtain ⟨p, k⟩ := Pair.left hd hr T h1 h2 h3 hd' ht
  exact ⟨rfl, p, k⟩
theorem Pair.rcall {fn : Nat} {args : Array Value} {R : Int × DM.D} (h : Pair w0 w b r n m d d') (hc : ∀ v, RefAt w w0.heap.size r v m d' → w0.heap.size ≤ w.heap.size → Calls Try.prog fn args w (REnds w0.heap.size r m w R)) :
    Calls Try.prog fn args w fun e w' => e = .returned (.int .i64 R.1) ∧ Pair w0 w' b r n (m + 2) d R.2 ∧ Keep w w' := by
  obtain ⟨mo, v, hd, hr, T, h1, h2, h3⟩ := h
  refine (hc v hr T.size).mono ?_
  rintro e w' ⟨rfl, v', hr', ht⟩
  obtain ⟨p, k⟩ := Pair.right hd hr T h1 h2 h3 hr' (ht.mono (by simp))
  exact ⟨rfl, p, k⟩
end
end Go.Proofs.Ytaemebchblhpcaa

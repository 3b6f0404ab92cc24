/- The cache as the law's own: its calls, in short. -/
import Derived.Test.YtibbfihnhlgkeaaGreatCacheG
namespace Go.Proofs.YtibbfihnhlgkeaaGreat
open Go.RowKit Go.Maps Go.WideMaps
open NM (Bs bs ofBs)
open CM (It C)

/-- a call turns blocks of the cache's own types alone, and none that was there ahead of w0 -/
def CStep (w0 w w' : World) : Prop := ∃ S, Touch S w w' ∧ (∀ k ∈ S, w0.heap.size ≤ k) ∧ ∀ k t cs, Blk w k t cs → t ≠ 56 → t ≠ 66 → t ≠ 65 → k ∉ S
section
variable {w0 w w' w'' : World} {B : Nat} {mo : Option Nat} {v : Value} {m u : Int} {l : List It}
theorem CStep.of_k (h : K w B mo v m u l) (hf : ∀ k ∈ cfoot B mo v l, w0.heap.size ≤ k) (t : Touch (cfoot B mo v l) w w') : CStep w0 w w' := ⟨_, t, hf, fun _ _ _ hb h1 h2 h3 => h.ne_blk hb h1 h2 h3⟩
theorem CStep.quiet (t : Touch [] w w') : CStep w0 w w' := ⟨[], t, by simp, by simp⟩
theorem CStep.touch (h : CStep w0 w w') (T : Touch [] w0 w) : Touch [] w0 w' := by
  obtain ⟨S, t, h1, _⟩ := h
  exact T.trans t (fun k hk => .inr (h1 k hk))
theorem CStep.size (h : CStep w0 w w') : w.heap.size ≤ w'.heap.size := by
  obtain ⟨S, t, _⟩ := h
  exact t.size
theorem CStep.blk (h : CStep w0 w w') {k : Nat} {t : TypeId} {cs : Array Value} (hb : Blk w k t cs) (h1 : t ≠ 56) (h2 : t ≠ 66) (h3 : t ≠ 65) : Blk w' k t cs := by
  obtain ⟨S, t, _, hn⟩ := h
  exact t.blk hb (hn _ _ _ hb h1 h2 h3)
theorem CStep.row (h : CStep w0 w w') {b size n : Nat} {t : TypeId} {x : Value} {xs : List Value} (hr : w.ownsRow b t size x n xs) (h1 : t ≠ 56) (h2 : t ≠ 66) (h3 : t ≠ 65) : w'.ownsRow b t size x n xs := by
  obtain ⟨S, ts, _, hn⟩ := h
  refine trow_touch hr ts (fun k hk => ?_)
  rcases hr.2 with ⟨e, _⟩ | ⟨g, cap, cur, e, _, hg, _⟩
  · rw [e] at hk; cases hk
  · rw [e] at hk
    injection hk with hk
    subst hk
    exact hn _ _ _ (show Blk w g t cur from hg) h1 h2 h3
end
/-- where an entry's records may lie -/
def Far (w0 w : World) (rv : Value) : Prop := ∀ g off n c, rv = .slice (some ⟨g, off, none⟩) n c → 0 < n → g < w0.heap.size ∨ ∃ cs, Blk w g 60 cs
theorem Far.of_row {w0 w : World} {b n : Nat} {rv : Value} {xs : List Value} (h : w.ownsRow b 60 5 rv n xs) : Far w0 w rv := by
  intro g off k c e _
  rcases h.2 with ⟨e2, _⟩ | ⟨g2, cap, cur, e2, _, hg, _⟩
  · rw [e] at e2; cases e2
  · rw [e] at e2
    injection e2 with e3
    injection e3 with e3
    injection e3 with e3
    subst e3
    exact .inr ⟨cur, hg⟩
structure OC (w0 w : World) (B : Nat) (c : C) : Prop where
  ex : ∃ mo v, K w B mo v c.most c.uses c.h ∧ ∀ k ∈ cfoot B mo v c.h, w0.heap.size ≤ k
  inv : CM.Inv c
  uses : 0 ≤ c.uses
  most : c.most ≤ 1000000
section
variable {w0 w w' : World} {B : Nat} {c : C}
theorem OC.quiet (h : OC w0 w B c) (t : Touch [] w w') : OC w0 w' B c := by
  obtain ⟨mo, v, hk, hf⟩ := h.ex
  exact ⟨⟨mo, v, hk.quiet t, hf⟩, h.inv, h.uses, h.most⟩
/-- a block of another type may turn -/
theorem OC.touch1 (h : OC w0 w B c) {D : Nat} {t : TypeId} {cs : Array Value} (hb : Blk w D t cs) (h1 : t ≠ 56) (h2 : t ≠ 66) (h3 : t ≠ 65) (h4 : t ≠ 60) (T : Touch [D] w w') : OC w0 w' B c := by
  obtain ⟨mo, v, hk, hf⟩ := h.ex
  exact ⟨⟨mo, v, hk.touch1 hb h1 h2 h3 h4 T, hf⟩, h.inv, h.uses, h.most⟩
theorem OC.len (h : OC w0 w B c) : c.h.length ≤ 1000000 := by
  have := h.inv.len
  have := h.most
  unfold CM.room at *
  omega
end
theorem onew (w0 w : World) (T : Touch [] w0 w) (n : Int) :
    Calls Tryz.prog 5 #[.int .i64 n] w fun e w' => ∃ B, e = .returned (.pointer (some ⟨B, 0, none⟩)) ∧ OC w0 w' B ⟨min (max n 1) 100000, 0, []⟩ ∧ Touch [] w w' := by
  refine (cnew_any w n).mono ?_
  rintro e w' ⟨rfl, rfl⟩
  refine ⟨_, rfl, ⟨⟨none, .slice none 0 0, ⟨⟨Blk.new w _ _, rfl, ⟨by simp, .inl ⟨rfl, rfl⟩⟩, fun i hi => by simp at hi, by simp⟩, .inl ⟨rfl, rfl⟩, by simp, by simp, by simp, by simp⟩, ?_⟩, ⟨by simp, by simp, by simp, by simp, ?_, by simp⟩, Int.le_refl _, by show min (max n 1) 100000 ≤ 1000000; omega⟩, (Touch.refl [] w).alloc _⟩
  · intro k hk
    unfold cfoot at hk
    simp at hk
    rcases hk with hk | hk
    · rw [hk]
      exact T.size
    · cases hk
  · show ((([] : List It).length : Nat) : Int) ≤ CM.room _
    unfold CM.room
    simp
    omega
theorem olen (w0 w : World) (B : Nat) (c : C) (h : OC w0 w B c) : Calls Tryz.prog 23 #[.pointer (some ⟨B, 0, none⟩)] w fun e w' => e = .returned (.int .i64 (c.h.length : Int)) ∧ w' = w := by
  obtain ⟨mo, v, hk, hf⟩ := h.ex
  exact clen_any w B mo v _ _ _ hk
theorem oput (w0 w : World) (B : Nat) (c : C) (h : OC w0 w B c) (e : CM.E) (rv : Value) (now : Int) (hf : EFits e) (hrec : RecsAt w rv e.recs) (hfar : Far w0 w rv)
    (ht : 0 ≤ e.type ∧ e.type ≤ 65535) (hcl : 0 ≤ e.cls ∧ e.cls ≤ 65535) (hu : c.uses ≤ 1099511627776) :
    Calls Tryz.prog 19 #[.pointer (some ⟨B, 0, none⟩), .agg (entV e rv), .int .i64 now] w fun e1 w' => CStep w0 w w' ∧ Ending.returned (.bool (CM.mayPut c e now)) = e1 ∧
      ((CM.mayPut c e now = false ∧ OC w0 w' B c) ∨
       (CM.mayPut c e now = true ∧ ∃ x : It, x.e = e ∧ x.key = CM.key e ∧ (∀ y ∈ c.h, y.g ≠ x.g) ∧ OC w0 w' B (CM.put c x now))) := by
  obtain ⟨mo, v, hk, hfo⟩ := h.ex
  refine (put_any w B mo v c.most c.uses c.h hk e rv now hf hrec (fun g off n k e1 hn => ?_) ht hcl ⟨h.uses, hu⟩ h.len).mono ?_
  · rcases hfar g off n k e1 hn with h1 | ⟨cs, h1⟩
    · intro hm
      have := hfo _ hm
      omega
    · exact hk.ne_blk h1 (by decide) (by decide) (by decide)
  · rintro e1 w' H
    rcases H with ⟨h1, rfl, t⟩ | ⟨h1, rfl, mo', v', x, h2, h3, h4, M⟩
    · have h1 : CM.mayPut c e now = false := h1
      exact ⟨CStep.quiet t, by rw [h1], .inl ⟨h1, h.quiet t⟩⟩
    · have h1 : CM.mayPut c e now = true := h1
      have hg : ∀ y ∈ c.h, y.g ≠ x.g := fun y hy e2 => by
        obtain ⟨i, hi, rfl⟩ := List.mem_iff_getElem.1 hy
        have := (hk.hp.items i hi).lt
        omega
      refine ⟨CStep.of_k hk hfo M.t, by rw [h1], .inr ⟨h1, x, h2, h3, hg, ⟨⟨mo', v', M.k, fun q hq => ?_⟩, ?_, ?_, h.most⟩⟩⟩
      · rcases M.f q hq with h5 | h5
        · exact hfo q h5
        · obtain ⟨b0, hb0⟩ : ∃ b, b ∈ cfoot B mo v c.h := ⟨B, by unfold cfoot; simp⟩
          have := hfo B (by unfold cfoot; simp)
          have := hk.hp.blk.lt
          omega
      · refine h.inv.put x now hg h.uses (by rw [h3, h2]) ?_
        unfold CM.mayPut at h1
        rw [h2]
        simp only [Bool.and_eq_true, decide_eq_true_eq] at h1
        exact h1.1.1
      · have := h.uses
        show 0 ≤ c.uses + 1
        omega
/-- what Get and Name say -/
def TellO (w0 w : World) (B : Nat) (c : C) (o : Option It) (e : Ending) (w' : World) : Prop := CStep w0 w w' ∧
  ((o = none ∧ e = .returned (.tuple #[.agg zeroE, .bool false]) ∧ OC w0 w' B c) ∨
   ∃ (x : It) (a : Option Addr) (cp : Nat), o = some x ∧ e = .returned (.tuple #[.agg (entV x.e (.slice a x.e.recs.length cp)), .bool true]) ∧ w'.ownsRow w.heap.size 60 5 (.slice a x.e.recs.length cp) x.e.recs.length (flat x.e.recs) ∧ OC w0 w' B (CM.used c x.g))
theorem TellO.of {w0 w : World} {B : Nat} {c : C} {k : ByteArray} {now : Int} {mo : Option Nat} {v : Value} (h : OC w0 w B c) (hk : K w B mo v c.most c.uses c.h) (hfo : ∀ k ∈ cfoot B mo v c.h, w0.heap.size ≤ k) {e : Ending} {w' : World} {o : Option It} (H : TellEnd w B mo v c.most c.uses c.h o e w') (ho : o = CM.tell c k now) : TellO w0 w B c o e w' := by
  rcases H with ⟨h1, h2, h3, t⟩ | ⟨x, rv, h1, h2, hrow, h3, t⟩
  · exact ⟨CStep.of_k hk hfo t, .inl ⟨h1, h2, ⟨mo, v, h3, hfo⟩, h.inv, h.uses, h.most⟩⟩
  · obtain ⟨a, cp, rfl⟩ := own_shape hrow
    refine ⟨CStep.of_k hk hfo t, .inr ⟨x, a, cp, h1, h2, hrow, ⟨mo, v, h3, fun q hq => ?_⟩, h.inv.used x.g h.uses, by have := h.uses; show 0 ≤ c.uses + 1; omega, h.most⟩⟩
    refine hfo q ?_
    unfold cfoot at hq ⊢
    rw [show (CM.used c x.g).h.map It.g = c.h.map It.g from upd_gs c.h x.g (c.uses + 1)] at hq
    exact hq
theorem oget (w0 w : World) (B : Nat) (c : C) (h : OC w0 w B c) (n : ByteArray) (hn : n.size ≤ 1000000000000) (t cl : Nat) (now : Int) (hu : c.uses ≤ 1099511627776) :
    Calls Tryz.prog 8 #[.pointer (some ⟨B, 0, none⟩), .string n, .int .u16 (t : Int), .int .u16 (cl : Int), .int .i64 now] w (TellO w0 w B c (CM.tell c (ofBs (CM.keyB 0 (bs n) (t : Int) (cl : Int))) now)) := by
  obtain ⟨mo, v, hk, hfo⟩ := h.ex
  exact (get_any w B mo v c.most c.uses c.h hk n hn t cl now ⟨h.uses, hu⟩).mono (fun e w' H => TellO.of h hk hfo H rfl)
theorem oname (w0 w : World) (B : Nat) (c : C) (h : OC w0 w B c) (n : ByteArray) (hn : n.size ≤ 1000000000000) (cl : Nat) (now : Int) (hu : c.uses ≤ 1099511627776) :
    Calls Tryz.prog 11 #[.pointer (some ⟨B, 0, none⟩), .string n, .int .u16 (cl : Int), .int .i64 now] w (TellO w0 w B c (CM.tell c (ofBs (CM.keyB 1 (bs n) ((0 : Nat) : Int) (cl : Int))) now)) := by
  obtain ⟨mo, v, hk, hfo⟩ := h.ex
  exact (name_any w B mo v c.most c.uses c.h hk n hn cl now ⟨h.uses, hu⟩).mono (fun e w' H => TellO.of h hk hfo H rfl)
end Go.Proofs.YtibbfihnhlgkeaaGreat

/- Put. -/
import Derived.Test.YtibbfihnhlgkeaaGreatCacheZ0
import Derived.Test.YtibbfihnhlgkeaaGreatCacheL
namespace Go.Proofs.YtibbfihnhlgkeaaGreat
open Go.RowKit Go.Maps Go.WideMaps
open NM (Bs bs ofBs)
open CM (It C)

/-- the cache in the midst of a call -/
structure Mid (w W : World) (B : Nat) (mo : Option Nat) (v : Value) (m u : Int) (l : List It) (F : List Nat) : Prop where
  k : K W B mo v m u l
  t : Touch F w W
  f : ∀ q ∈ cfoot B mo v l, q ∈ F ∨ w.heap.size ≤ q
theorem Mid.start {w : World} {B : Nat} {mo : Option Nat} {v : Value} {m u : Int} {l : List It} (h : K w B mo v m u l) : Mid w w B mo v m u l (cfoot B mo v l) := ⟨h, Touch.refl _ _, fun _ hq => .inl hq⟩
section
variable {w W W' : World} {B : Nat} {mo mo' : Option Nat} {v v' : Value} {m u u' : Int} {l l' : List It} {F : List Nat}
theorem Mid.quiet (h : Mid w W B mo v m u l F) (t : Touch [] W W') : Mid w W' B mo v m u l F := ⟨h.k.quiet t, h.t.trans t (by simp), h.f⟩
theorem Mid.step (h : Mid w W B mo v m u l F) (k : K W' B mo' v' m u' l') (t : Touch (cfoot B mo v l) W W') (f : ∀ q ∈ cfoot B mo' v' l', q ∈ cfoot B mo v l ∨ w.heap.size ≤ q) : Mid w W' B mo' v' m u' l' F :=
  ⟨k, h.t.trans t h.f, fun q hq => by
    rcases f q hq with h1 | h1
    · exact h.f q h1
    · exact .inr h1⟩
theorem cfoot_sub (hv : v'.ownBlock = v.ownBlock) (hl : ∀ x ∈ l', x ∈ l) : ∀ q ∈ cfoot B mo v' l', q ∈ cfoot B mo v l := by
  intro q hq
  unfold cfoot at hq ⊢
  simp only [List.mem_cons, List.mem_append] at hq ⊢
  rw [hv] at hq
  rcases hq with h | h | h | h
  · exact .inl h
  · exact .inr (.inl h)
  · exact .inr (.inr (.inl h))
  · obtain ⟨x, hx, rfl⟩ := List.mem_map.1 h
    exact .inr (.inr (.inr (List.mem_map_of_mem (hl x hx))))
theorem Mid.sub (h : Mid w W B mo v m u l F) (k : K W' B mo v' m u' l') (t : Touch (cfoot B mo v l) W W') (hv : v'.ownBlock = v.ownBlock) (hl : ∀ x ∈ l', x ∈ l) : Mid w W' B mo v' m u' l' F :=
  h.step k t (fun q hq => .inl (cfoot_sub hv hl q hq))
end
theorem clen_any (w : World) (B : Nat) (mo : Option Nat) (v : Value) (m u : Int) (l : List It) (h : K w B mo v m u l) :
    Calls Tryz.prog 23 #[.pointer (some ⟨B, 0, none⟩)] w fun e w' => e = .returned (.int .i64 (l.length : Int)) ∧ w' = w := by
  have c1 : w.cell? ⟨B, 1, none⟩ = some (.map mo) := h.hp.blk.cell 1
  have hl := h.map.len
  go_enter Tryz.func23, Tryz.ntmps23
  go_wp2_with fail
  go_ret
  exact ⟨rfl, rfl⟩
theorem clen_nil (w : World) : Calls Tryz.prog 23 #[.pointer none] w fun e w' => e = .returned (.int .i64 0) ∧ w' = w := by
  go_enter Tryz.func23, Tryz.ntmps23
  go_wp2_with fail
  go_ret
  exact ⟨rfl, rfl⟩
theorem entCells {W : World} {D : Nat} {e : CM.E} {rv : Value} (h : Blk W D 31 (entV e rv)) :
    W.cell? ⟨D, 0, none⟩ = some (.int .i64 e.kind) ∧ W.cell? ⟨D, 1, none⟩ = some (.string e.name) ∧ W.cell? ⟨D, 2, none⟩ = some (.int .u16 e.type) ∧ W.cell? ⟨D, 3, none⟩ = some (.int .u16 e.cls) ∧ W.cell? ⟨D, 4, none⟩ = some rv ∧
    W.cell? ⟨D, 5, none⟩ = some (.int .i64 e.til) ∧ W.cell? ⟨D, 6, none⟩ = some (.int .i64 e.rank) ∧ W.cell? ⟨D, 7, none⟩ = some (.int .i64 e.epoch) ∧ W.cell? ⟨D, 8, none⟩ = some (.int .i64 e.src) :=
  ⟨h.cell 0, h.cell 1, h.cell 2, h.cell 3, h.cell 4, h.cell 5, h.cell 6, h.cell 7, h.cell 8⟩
/-- what Put says -/
def PutEnd (w : World) (B : Nat) (mo : Option Nat) (v : Value) (m u : Int) (l : List It) (e : CM.E) (now : Int) (e1 : Ending) (w' : World) : Prop :=
  (CM.mayPut ⟨m, u, l⟩ e now = false ∧ e1 = .returned (.bool false) ∧ Touch [] w w') ∨
  (CM.mayPut ⟨m, u, l⟩ e now = true ∧ e1 = .returned (.bool true) ∧ ∃ mo' v' x, x.e = e ∧ x.key = CM.key e ∧ w.heap.size ≤ x.g ∧ Mid w w' B mo' v' m (u + 1) (CM.put ⟨m, u, l⟩ x now).h (cfoot B mo v l))
set_option maxRecDepth 10000 in
set_option maxHeartbeats 1000000 in
/-- what may not be put -/
theorem put_bad (w : World) (B : Nat) (mo : Option Nat) (v : Value) (m u : Int) (l : List It) (e : CM.E) (rv : Value) (now : Int) (hf : EFits e) (hrec : RecsAt w rv e.recs) (h : ¬ (CM.check e = 0 ∧ now ≤ e.til)) :
    Calls Tryz.prog 19 #[.pointer (some ⟨B, 0, none⟩), .agg (entV e rv), .int .i64 now] w (PutEnd w B mo v m u l e now) := by
  have HM := Lib.hid (show CM.mayPut ⟨m, u, l⟩ e now = false by unfold CM.mayPut; rw [decide_eq_false h]; rfl)
  have HE := Lib.hid (Blk.new w 31 (entV e rv))
  have HT := Lib.hid ((Touch.refl [] w).alloc (.cells (entV e rv) 31))
  have HC := Lib.hid (ccheck_any _ e rv hf (hrec.touch0 HT.out))
  obtain ⟨q, hq⟩ : ∃ q, q = CM.check e := ⟨_, rfl⟩
  rw [← hq] at HC
  obtain ⟨W0, hW0⟩ : ∃ W, W = w.alloc (.cells (entV e rv) 31) := ⟨_, rfl⟩
  rw [← hW0] at HE HT HC
  obtain ⟨D, hD⟩ : ∃ D, D = w.heap.size := ⟨_, rfl⟩
  rw [← hD] at HE
  have HD := Lib.hid hD
  have HW0 := Lib.hid hW0
  by_cases hc : CM.check e = 0
  · have hlt : e.til < now := by omega
    have hq0 : q = 0 := by rw [hq, hc]
    subst hq0
    clear hc h hf hrec hq hW0 hD
    go_enter Tryz.func19, Tryz.ntmps19
    go_upto_region 1 with (fail)
    rw [← HW0.out, ← HD.out]
    obtain ⟨k0, k1, k2, k3, k4, k5, k6, k7, k8⟩ := entCells HE.out
    go_wp2_with fail
    refine HC.out.mono ?_
    rintro e1 w1 ⟨rfl, T1⟩
    clear k0 k1 k2 k3 k4 k5 k6 k7 k8
    have c5 : w1.cell? ⟨D, 5, none⟩ = some (.int .i64 e.til) := (T1.blk HE.out (by simp)).cell 5
    have HT1 := Lib.hid (HT.out.trans T1 (by simp))
    clear T1
    go_wp2_with fail
    go_ret
    exact .inl ⟨HM.out, rfl, HT1.out⟩
  · have hq1 : q = 1 := by
      rcases CM.check_cases e with h1 | h1
      · exact absurd h1 hc
      · rw [hq, h1]
    subst hq1
    clear hc h hf hrec hq hW0 hD
    go_enter Tryz.func19, Tryz.ntmps19
    go_upto_region 1 with (fail)
    rw [← HW0.out, ← HD.out]
    obtain ⟨k0, k1, k2, k3, k4, k5, k6, k7, k8⟩ := entCells HE.out
    go_wp2_with fail
    refine HC.out.mono ?_
    rintro e1 w1 ⟨rfl, T1⟩
    clear k0 k1 k2 k3 k4 k5 k6 k7 k8
    have HT1 := Lib.hid (HT.out.trans T1 (by simp))
    clear T1
    go_wp2_with fail
    go_ret
    exact .inl ⟨HM.out, rfl, HT1.out⟩
theorem hit_some {l : List It} {k : ByteArray} {x : It} (h : CM.find l k = some x) : hit l k = .pointer (some ⟨x.g, 0, none⟩) := by unfold hit; rw [h]; rfl
theorem hit_none {l : List It} {k : ByteArray} (h : CM.find l k = none) : hit l k = .pointer none := by unfold hit; rw [h]
set_option maxRecDepth 10000 in
set_option maxHeartbeats 1000000 in
/-- what is refused for what is there -/
theorem put_refused (w : World) (B : Nat) (mo : Option Nat) (v : Value) (m u : Int) (l : List It) (h : K w B mo v m u l) (e : CM.E) (rv : Value) (now : Int) (hf : EFits e) (hrec : RecsAt w rv e.recs) (ht : 0 ≤ e.type ∧ e.type ≤ 65535) (hcl : 0 ≤ e.cls ∧ e.cls ≤ 65535)
    (hc : CM.check e = 0) (hnow : now ≤ e.til) (x : It) (hx : CM.find l (CM.key e) = some x) (hr : now ≤ x.e.til ∧ e.rank < x.e.rank) :
    Calls Tryz.prog 19 #[.pointer (some ⟨B, 0, none⟩), .agg (entV e rv), .int .i64 now] w (PutEnd w B mo v m u l e now) := by
  have HM := Lib.hid (show CM.mayPut ⟨m, u, l⟩ e now = false by
    unfold CM.mayPut CM.refused
    simp only [hx, hr.1, hr.2]
    simp)
  have HE := Lib.hid (Blk.new w 31 (entV e rv))
  have T0 := (Touch.refl [] w).alloc (.cells (entV e rv) 31)
  have HT := Lib.hid T0
  have HC := Lib.hid (ccheck_any _ e rv hf (hrec.touch0 HT.out))
  rw [hc] at HC
  have HK := Lib.hid (fun W (t : Touch [] w W) => h.quiet t)
  have hks : (CM.key e).size ≤ maxLen := by have := key_size hc; unfold maxLen; omega
  have hkey := fun W => ckey_any W e rv hf.1 ht hcl
  obtain ⟨W0, hW0⟩ : ∃ W, W = w.alloc (.cells (entV e rv) 31) := ⟨_, rfl⟩
  rw [← hW0] at HE HT HC
  obtain ⟨D, hD⟩ : ∃ D, D = w.heap.size := ⟨_, rfl⟩
  rw [← hD] at HE
  have HD := Lib.hid hD
  have HW0 := Lib.hid hW0
  obtain ⟨k, hk⟩ : ∃ k, k = CM.key e := ⟨_, rfl⟩
  rw [← hk] at hx hkey hks
  have HKEY := Lib.hid hkey
  have HX := Lib.hid (And.intro hx (And.intro hks (CM.find_some hx).1))
  obtain ⟨r1, r2⟩ := hr
  have hhit := hit_some hx
  clear hc hf hrec hW0 hD hk hkey hx T0 ht hcl hks
  go_enter Tryz.func19, Tryz.ntmps19
  go_upto_region 1 with (fail)
  rw [← HW0.out, ← HD.out]
  obtain ⟨k0, k1, k2, k3, k4, k5, k6, k7, k8⟩ := entCells HE.out
  go_wp2_with fail
  refine HC.out.mono ?_
  rintro e1 w1 ⟨rfl, T1⟩
  clear k0 k1 k2 k3 k4 k5 k6 k7 k8
  have b1 := T1.blk HE.out (by simp)
  have c5 : w1.cell? ⟨D, 5, none⟩ = some (.int .i64 e.til) := b1.cell 5
  have HT1 := Lib.hid (HT.out.trans T1 (by simp))
  have HB1 := Lib.hid b1
  clear T1 b1
  go_wp2_with (refine wpList_load_row rfl 31 (.tmp 4) rfl D rfl 31 (entV e rv) (0, 0) _ HB1.out Tryz.underlying31 rfl (by kernel_rfl) ?_)
  refine (HKEY.out _).mono ?_
  rintro e1 w2 ⟨rfl, T2⟩
  have t2 := HT1.out.trans T2 (by simp)
  have hK2 := HK.out w2 t2
  have c1 : w2.cell? ⟨B, 1, none⟩ = some (.map mo) := hK2.hp.blk.cell 1
  have hlook := hK2.map.look k HX.out.2.1
  rw [hhit, HX.out.1] at hlook
  obtain ⟨i, hi, hxi⟩ := List.mem_iff_getElem.1 HX.out.2.2
  have bx := hK2.hp.items i hi
  rw [hxi] at bx
  have c2 : w2.cell? ⟨x.g, 5, none⟩ = some (.int .i64 x.e.til) := bx.cell 5
  have c3 : w2.cell? ⟨x.g, 6, none⟩ = some (.int .i64 x.e.rank) := bx.cell 6
  have c6 : w2.cell? ⟨D, 6, none⟩ = some (.int .i64 e.rank) := (T2.blk HB1.out (by simp)).cell 6
  have HT2 := Lib.hid t2
  clear T2 t2 hK2 bx c5 hi hxi hhit
  obtain ⟨g, hg⟩ : ∃ g, g = x.g := ⟨_, rfl⟩
  obtain ⟨a, ha⟩ : ∃ g, g = x.e.til := ⟨_, rfl⟩
  obtain ⟨b, hb⟩ : ∃ g, g = x.e.rank := ⟨_, rfl⟩
  obtain ⟨d, hd⟩ : ∃ g, g = e.rank := ⟨_, rfl⟩
  rw [← hg] at hlook c2 c3
  rw [← ha] at c2 r1
  rw [← hb] at c3 r2
  rw [← hd] at c6 r2
  clear hg ha hb hd
  have hlook : (Instr.lookup 52 (.map mo) (.string k) true).run Tryz.prog w2 = .ok (.tuple #[.pointer (some ⟨g, 0, none⟩), .bool true]) w2 := hlook
  go_wp2_with fail
  go_quiet (fail)
  go_wp2_with fail
  go_ret
  exact .inl ⟨HM.out, rfl, HT2.out.drewN_ _⟩
end Go.Proofs.YtibbfihnhlgkeaaGreat

/- The cache in memory; drop. -/
import Derived.Test.YtibbfihnhlgkeaaCacheT
import Derived.StillTailTactics
namespace Go.Proofs.Ytibbfihnhlgkeaa
open Go.RowKit Go.Maps Go.WideMaps
open NM (Bs bs ofBs)
open CM (It C)

structure K (w : World) (B : Nat) (mo : Option Nat) (v : Value) (m u : Int) (l : List It) : Prop where
  hp : Hp w B #[.int .i64 m, .map mo, v, .int .i64 u] v l
  map : MapP w mo l
  keys : (l.map It.key).Nodup
  recs : ∀ x ∈ l, w.ownsRow 0 68 5 x.rv x.e.recs.length (flat x.e.recs)
  ok : ∀ x ∈ l, x.key = CM.key x.e ∧ CM.check x.e = 0 ∧ EFits x.e
  len : l.length ≤ 1099511627775
def cfoot (B : Nat) (mo : Option Nat) (v : Value) (l : List It) : List Nat := B :: (mo.toList ++ (v.ownBlock.toList ++ l.map It.g))
theorem check_name {e : CM.E} (h : CM.check e = 0) : NM.check (bs e.name) = 0 ∧ e.recs.length ≤ 64 ∧ (0 ≤ e.til ∧ e.til ≤ 1125899906842624) := by
  unfold CM.check at h
  split at h
  · rename_i h2
    rw [Bool.and_eq_true, Bool.and_eq_true] at h2
    have h3 := h2.1.1
    have h4 := h2.1.2
    unfold CM.okHead at h3
    unfold CM.okLen at h4
    simp only [decide_eq_true_eq] at h3 h4
    exact ⟨h3.2.1, by have := h4.1.2; split at this <;> omega, h3.2.2.1⟩
  · omega
theorem key_size {e : CM.E} (h : CM.check e = 0) : (CM.key e).size ≤ 300 := by
  have h1 := (NM.check_zero (check_name h).1).2
  have h2 : ∀ (n : Bs), (NM.lower n).length = n.length := fun n => by unfold NM.lower; simp
  unfold CM.key
  rw [NM.ofBs_size]
  unfold CM.keyB
  split <;> simp only [List.length_cons, List.length_append, List.length_nil, h2] <;> omega
section
variable {w w' : World} {B : Nat} {mo : Option Nat} {v : Value} {m u : Int} {l : List It}
theorem K.ne_blk (h : K w B mo v m u l) {k : Nat} {t : TypeId} {cs : Array Value} (hb : Blk w k t cs) (h1 : t ≠ 61) (h2 : t ≠ 74) (h3 : t ≠ 77) : k ∉ cfoot B mo v l := by
  intro hm
  unfold cfoot at hm
  rcases List.mem_cons.1 hm with e | hm
  · exact hb.ne_type h.hp.blk h1 e
  · rcases List.mem_append.1 hm with hm | hm
    · rw [Option.mem_toList] at hm
      rcases h.map with ⟨e, _⟩ | ⟨mb, Dm, e, ⟨es, clock, hh, _⟩, _⟩
      · rw [e] at hm; cases hm
      · rw [e] at hm
        cases hm
        exact hb.ne_map hh rfl
    · rcases List.mem_append.1 hm with hm | hm
      · rw [Option.mem_toList] at hm
        obtain ⟨cur, h4⟩ := h.hp.ownBlk hm
        exact hb.ne_type h4 h2 rfl
      · obtain ⟨x, hx, e⟩ := List.mem_map.1 hm
        obtain ⟨i, hi, rfl⟩ := List.mem_iff_getElem.1 hx
        exact hb.ne_type (h.hp.items i hi) h3 e.symm
theorem K.own_ne (h : K w B mo v m u l) {x : It} (hx : x ∈ l) {k : Nat} (hk : x.rv.ownBlock = some k) : k ∉ cfoot B mo v l := by
  rcases (h.recs x hx).2 with ⟨e, _⟩ | ⟨g, cap, cur, e, _, hg, _⟩
  · rw [e] at hk; cases hk
  · rw [e] at hk
    injection hk with hk
    subst hk
    exact h.ne_blk (t := 68) (cs := cur) hg (by decide) (by decide) (by decide)
theorem K.map_ne (h : K w B mo v m u l) {mb : Nat} (hm : mo = some mb) : mb ≠ B ∧ (∀ k, v.ownBlock = some k → mb ≠ k) ∧ ∀ x ∈ l, mb ≠ x.g := by
  rcases h.map with ⟨e, _⟩ | ⟨mb', Dm, e, ⟨es, clock, hh, _⟩, _⟩
  · rw [e] at hm; cases hm
  · rw [e] at hm
    cases hm
    refine ⟨(h.hp.blk.ne_map hh).symm, fun k hk => ?_, fun x hx => ?_⟩
    · obtain ⟨cur, h4⟩ := h.hp.ownBlk hk
      exact (h4.ne_map hh).symm
    · obtain ⟨i, hi, rfl⟩ := List.mem_iff_getElem.1 hx
      exact ((h.hp.items i hi).ne_map hh).symm
/-- what is no part of the cache may turn -/
theorem K.touch {S : List Nat} (h : K w B mo v m u l) (t : Touch S w w') (hS : ∀ k ∈ S, k ∉ cfoot B mo v l ∧ ∀ x ∈ l, x.rv.ownBlock ≠ some k) : K w' B mo v m u l := by
  have hn : ∀ k, k ∈ cfoot B mo v l → k ∉ S := fun k hk hs => (hS k hs).1 hk
  refine ⟨h.hp.touch t (hn _ (by unfold cfoot; simp)) (fun k hk => hn _ (by unfold cfoot; simp [hk])) (fun x hx => hn _ (by unfold cfoot; simp only [List.mem_cons, List.mem_append]; right; right; right; exact List.mem_map_of_mem hx)), h.map.touch t (fun k hk => hn _ (by unfold cfoot; simp [hk])), h.keys, fun x hx => trow_touch (h.recs x hx) t (fun k hk hs => (hS k hs).2 x hx hk), h.ok, h.len⟩
theorem K.quiet (h : K w B mo v m u l) (t : Touch [] w w') : K w' B mo v m u l := h.touch t (by simp)
end
set_option maxRecDepth 10000 in
set_option maxHeartbeats 800000 in
theorem drop_any (w : World) (B : Nat) (mo : Option Nat) (v : Value) (m u : Int) (l : List It) (h : K w B mo v m u l) (i : Nat) (hi : i < l.length) :
    Calls Try.prog 41 #[.pointer (some ⟨B, 0, none⟩), ptr l[i]] w fun e w' => (∃ r, e = .returned r) ∧ ∃ v', K w' B mo v' m u (CM.remove l i) ∧ Touch (cfoot B mo v l) w w' ∧ v'.ownBlock = v.ownBlock := by
  have hmem : l[i] ∈ l := List.getElem_mem hi
  have hperm := CM.remove_perm l i hi
  have hk := h.ok _ hmem
  have hks : l[i].key.size ≤ maxLen := by rw [hk.1]; have := key_size hk.2.1; unfold maxLen; omega
  have c1 : w.cell? ⟨B, 1, none⟩ = some (.map mo) := h.hp.blk.cell 1
  have c2 : w.cell? ⟨l[i].g, 9, none⟩ = some (.string l[i].key) := (h.hp.items i hi).cell 9
  obtain ⟨w1, hrun, hmap1, T1⟩ := (h.quiet ((Touch.refl [] w).drew_)).map.drop h.keys hperm hks
  have hmne : ∀ k, k ∈ mo.toList → k ≠ B ∧ (∀ q, v.ownBlock = some q → k ≠ q) ∧ ∀ x ∈ l, k ≠ x.g := fun k hk2 => by
    rw [Option.mem_toList] at hk2
    exact h.map_ne hk2
  have hp1 : Hp w1 B #[.int .i64 m, .map mo, v, .int .i64 u] v l := (h.quiet ((Touch.refl [] w).drew_)).hp.touch T1 (fun e => (hmne _ e).1 rfl) (fun k hk2 e => (hmne _ e).2.1 k hk2 rfl) (fun x hx e => (hmne _ e).2.2 x hx rfl)
  have hR := hremove_any (w1.drew) B #[.int .i64 m, .map mo, v, .int .i64 u] v l (hp1.touch ((Touch.refl [] w1).drew_) (by simp) (by simp) (by simp)) i hi (by have := h.len; omega) (by simp)
  have c3 : w1.cell? ⟨l[i].g, 11, none⟩ = some (.int .i64 (i : Int)) := (hp1.items i hi).cell 11
  have HH := Lib.hid h
  have HT1 := Lib.hid T1
  have HM := Lib.hid (And.intro hmap1 (And.intro hp1 (And.intro hmne (And.intro hmem hperm))))
  have HR := Lib.hid hR
  have HRUN : ∀ ty, (Builtin.delete_ #[57, 9] ty #[.map mo, .string l[i].key]).run Try.prog w.drew = .ok (.tuple #[]) w1 := hrun
  obtain ⟨g, hg⟩ : ∃ g, g = l[i].g := ⟨_, rfl⟩
  obtain ⟨k, hkk⟩ : ∃ k, k = l[i].key := ⟨_, rfl⟩
  have hpp : ptr l[i] = .pointer (some ⟨g, 0, none⟩) := by unfold ptr; rw [hg]
  rw [hpp]
  rw [← hg] at c2 c3
  rw [← hkk] at c2 HRUN
  clear h hmem hperm hk hks hrun hmap1 T1 hmne hp1 hR hpp hg hkk
  go_enter Try.func41, Try.ntmps41
  go_wp2_with fail
  go_still_tail 8, (by kernel_rfl)
  change wpList _ _ _ _ _ w.drew
  clear c1 c2
  go_wp2_with fail
  go_still_tail 8, (by kernel_rfl)
  change wpList _ _ _ _ _ w1.drew
  clear c3 HRUN
  go_wp2_with fail
  refine HR.out.mono ?_
  rintro e w3 ⟨⟨r, rfl⟩, v', hp3, T3, hvo⟩
  go_wp2_with fail
  go_returns
  have h := HH.out
  obtain ⟨hmap1, hp1, hmne, hmem, hperm⟩ := HM.out
  have T : Touch (cfoot B mo v l) w w3 := by
    have t1 : Touch (cfoot B mo v l) w w1 := ((Touch.refl _ w).drew_).trans HT1.out (fun k hk => .inl (by unfold cfoot; simp only [List.mem_cons, List.mem_append]; exact .inr (.inl hk)))
    refine (t1.drew_).trans (T3) (fun k hk => .inl ?_)
    unfold foot at hk
    unfold cfoot
    simp only [List.mem_cons, List.mem_append] at hk ⊢
    rcases hk with hk | hk | hk
    · exact .inl hk
    · exact .inr (.inr (.inl hk))
    · exact .inr (.inr (.inr hk))
  have hsub : ∀ {x : It}, x ∈ CM.remove l i → x ∈ l := fun hx => hperm.subset (List.mem_cons_of_mem _ hx)
  refine ⟨⟨_, rfl⟩, v', ⟨hp3, ?_, CM.nodup_rest (r := [l[i]]) hperm h.keys, fun x hx => trow_touch (h.recs x (hsub hx)) T (fun k hk => h.own_ne (hsub hx) hk), fun x hx => h.ok x (hsub hx), by rw [CM.remove_length]; have := h.len; omega⟩, T, hvo⟩
  refine hmap1.touch (((Touch.refl _ w1).drew_).trans (T3) (fun k hk => .inl hk)) (fun k hk hm => ?_)
  have h9 := hmne k (by rw [hk]; simp)
  unfold foot at hm
  simp only [List.mem_cons, List.mem_append] at hm
  rcases hm with hm | hm | hm
  · exact h9.1 hm
  · rw [Option.mem_toList] at hm
    exact h9.2.1 k hm rfl
  · obtain ⟨x, hx, e⟩ := List.mem_map.1 hm
    exact h9.2.2 x hx e.symm
end Go.Proofs.Ytibbfihnhlgkeaa

/- The document's own beat: contracts. -/
import Derived.Test.YtknkomnhfkbmiaaBeat
namespace Go.Proofs.Ytknkomnhfkbmiaa
open Go.RowKit Go.Maps

def encR : Option Int → Int
  | none => 0
  | some v => v + 1
structure RefAt (w : World) (r : Nat) (L : Int) (f : Int → Option Int) : Prop where
  blk : ∃ cs, Blk w r 47 cs ∧ cs.size = 65 ∧ cs[0]? = some (.int .i64 L) ∧ ∀ k : Nat, k < 64 → cs[1 + k]? = some (.int .i64 (encR (f k)))
  lo : 0 ≤ L
  hi : L ≤ 1125899906842624
  rng : ∀ k v, f k = some v → 0 ≤ k ∧ k < 64 ∧ 0 ≤ v ∧ v ≤ 1125899906842624

theorem RefAt.touch {S : List Nat} {w w' : World} {r : Nat} {L : Int} {f : Int → Option Int} (h : RefAt w r L f) (ht : Touch S w w') (hr : r ∉ S) : RefAt w' r L f := by
  obtain ⟨cs, h1, h2⟩ := h.blk
  exact ⟨⟨cs, ht.blk h1 hr, h2⟩, h.lo, h.hi, h.rng⟩
theorem RefAt.drewN {w : World} {r : Nat} {L : Int} {f : Int → Option Int} (h : RefAt w r L f) (j : Nat) : RefAt (w.drewN j) r L f := h.touch (Touch.drewN [] w j) (by simp)
theorem RefAt.c0 {w : World} {r : Nat} {L : Int} {f : Int → Option Int} (h : RefAt w r L f) : w.cell? ⟨r, 0, none⟩ = some (.int .i64 L) := by
  obtain ⟨cs, h1, _, h2, _⟩ := h.blk
  exact (h1.cell 0).trans h2
theorem RefAt.cell {w : World} {r : Nat} {L : Int} {f : Int → Option Int} (h : RefAt w r L f) (k : Nat) (hk : k < 64) : w.cell? ⟨r, 1 + k, none⟩ = some (.int .i64 (encR (f k))) := by
  obtain ⟨cs, h1, _, _, h2⟩ := h.blk
  exact (h1.cell _).trans (h2 k hk)
theorem RefAt.fr {w : World} {r : Nat} {L : Int} {f : Int → Option Int} (h : RefAt w r L f) (i : Nat) : w.frozen? ⟨r, i, none⟩ = false := by
  obtain ⟨cs, h1, _⟩ := h.blk
  exact h1.frozen i
theorem RefAt.lt {w : World} {r : Nat} {L : Int} {f : Int → Option Int} (h : RefAt w r L f) : r < w.heap.size := by
  obtain ⟨cs, h1, _⟩ := h.blk
  exact h1.lt
theorem encR_upd (f : Int → Option Int) (k j : Nat) (v : Option Int) : encR (upd f k v j) = if k = j then encR v else encR (f j) := by
  unfold upd
  by_cases e : k = j
  · subst e; simp
  · rw [if_neg (by omega), if_neg e]
theorem RefAt.store {w : World} {r : Nat} {L : Int} {f : Int → Option Int} (h : RefAt w r L f) (k : Nat) (hk : k < 64) (v : Option Int) (hv : ∀ u, v = some u → 0 ≤ u ∧ u ≤ 1125899906842624) : RefAt (w.setCell ⟨r, 1 + k, none⟩ (.int .i64 (encR v))) r L (upd f k v) := by
  obtain ⟨cs, h1, h2, h3, h4⟩ := h.blk
  refine ⟨⟨_, h1.set_ _ _, by simpa using h2, ?_, fun j hj => ?_⟩, h.lo, h.hi, fun j u hj => ?_⟩
  · rw [Array.getElem?_setIfInBounds, if_neg (by omega)]; exact h3
  · rw [Array.getElem?_setIfInBounds, encR_upd]
    by_cases e : k = j
    · subst e; rw [if_pos rfl, if_pos (by omega), if_pos rfl]
    · rw [if_neg (by omega), if_neg e]; exact h4 j hj
  · by_cases e : j = k
    · subst e; rw [upd, if_pos rfl] at hj; exact ⟨by omega, by omega, hv u hj⟩
    · rw [upd, if_neg e] at hj; exact h.rng j u hj

theorem time_any (n : Int) (w : World) :
    Calls Try.prog 22 #[.int .i64 n] w fun e w' => e = .returned (.int .i64 (clk n)) ∧ w' = w := by
  by_cases h0 : n < 0
  · go_enter Try.func22, Try.ntmps22
    go_wp2
    go_ret
    exact ⟨ret_int (by unfold clk; omega), rfl⟩
  · by_cases h1 : 1125899906842624 < n
    · go_enter Try.func22, Try.ntmps22
      go_wp2
      go_ret
      exact ⟨ret_int (by unfold clk; omega), rfl⟩
    · go_enter Try.func22, Try.ntmps22
      go_wp2
      go_ret
      exact ⟨ret_int (by unfold clk; omega), rfl⟩

def zs65 : Array Value := Array.replicate 65 (.int .i64 0)
theorem zero65 (w : World) : (zeroValue 47).run Try.prog w = .ok (.agg zs65) w := by kernel_rfl
theorem zs65_at (k : Nat) (h : k < 65) : zs65[k]? = some (.int .i64 0) := by unfold zs65; rw [Array.getElem?_replicate, if_pos h]
theorem rnew_any (n : Int) (w : World) :
    Calls Try.prog 9 #[.int .i64 n] w fun e w' => e = .returned (.pointer (some ⟨w.heap.size, 0, none⟩)) ∧ RefAt w' w.heap.size (clk n) (fun _ => none) ∧ Touch [] w w' := by
  have g0 := clk_lo n
  have g1 := clk_hi n
  have hz := zero65
  have hne : ¬ zs65 = #[] := by intro h; have := congrArg Array.size h; simp [zs65] at this
  go_enter Try.func9, Try.ntmps9
  go_wp2_with (go_at_call 22; refine (time_any _ _).mono ?_; rintro e w' ⟨rfl, rfl⟩)
  go_ret
  refine ⟨rfl, ⟨⟨_, Blk.new _ _ _, by simp [zs65], ?_, fun k hk => ?_⟩, g0, g1, fun k v h => by cases h⟩, (Touch.refl _ _).alloc _⟩
  · rw [Array.getElem?_setIfInBounds, if_pos rfl, if_pos (by simp [zs65])]
  · rw [Array.getElem?_setIfInBounds, if_neg (by omega), zs65_at _ (by omega)]; rfl

theorem rlast_any (w : World) (r : Nat) (L : Int) (f : Int → Option Int) (h : RefAt w r L f) (k : Int) :
    Calls Try.prog 15 #[.pointer (some ⟨r, 0, none⟩), .int .i64 k] w fun e w' => e = .returned (.tuple #[.int .i64 ((f k).getD 0), .bool (f k).isSome]) ∧ w' = w := by
  by_cases h0 : k < 0
  · have hf : f k = none := by
      cases hv : f k with
      | none => rfl
      | some v => have := h.rng k v hv; omega
    have HF := Lib.hid hf
    clear hf
    go_enter Try.func15, Try.ntmps15
    go_wp2
    go_ret2
    rw [HF.out]
    exact ⟨rfl, rfl⟩
  by_cases h1 : 63 < k
  · have hf : f k = none := by
      cases hv : f k with
      | none => rfl
      | some v => have := h.rng k v hv; omega
    have HF := Lib.hid hf
    clear hf
    go_enter Try.func15, Try.ntmps15
    go_wp2
    go_ret2
    rw [HF.out]
    exact ⟨rfl, rfl⟩
  obtain ⟨q, rfl⟩ := Int.eq_ofNat_of_zero_le (show 0 ≤ k by omega)
  have hc := h.cell q (by omega)
  cases hv : f q with
  | none =>
    rw [hv] at hc
    simp only [encR] at hc
    have HV := Lib.hid hv
    clear hv
    go_enter Try.func15, Try.ntmps15
    go_wp2
    go_ret2
    exact ⟨rfl, rfl⟩
  | some v =>
    have hr := h.rng q v hv
    rw [hv] at hc
    simp only [encR] at hc
    have HV := Lib.hid hv
    clear hv
    have e1 : (v + 1 == 0) = false := by simp; omega
    go_enter Try.func15, Try.ntmps15
    go_wp2
    go_ret2
    refine ⟨?_, rfl⟩
    simp

theorem rseen_any (w : World) (r : Nat) (L : Int) (f : Int → Option Int) (h : RefAt w r L f) (k now : Int) :
    Calls Try.prog 11 #[.pointer (some ⟨r, 0, none⟩), .int .i64 k, .int .i64 now] w fun e w' => e = .returned (.bool (inR k)) ∧ RefAt w' r L (seenF f k now) ∧ Touch [r] w w' := by
  have g0 := clk_lo now
  have g1 := clk_hi now
  by_cases h0 : k < 0
  · have e2 : seenF f k now = f := by unfold seenF; rw [if_neg (by omega)]
    have e1 : inR k = false := by unfold inR; simp; omega
    rw [e1, e2]
    clear e1 e2
    go_enter Try.func11, Try.ntmps11
    go_wp2
    go_ret
    exact ⟨rfl, h, Touch.refl _ _⟩
  by_cases h1 : 63 < k
  · have e2 : seenF f k now = f := by unfold seenF; rw [if_neg (by omega)]
    have e1 : inR k = false := by unfold inR; simp; omega
    rw [e1, e2]
    clear e1 e2
    go_enter Try.func11, Try.ntmps11
    go_wp2
    go_ret
    exact ⟨rfl, h, Touch.refl _ _⟩
  obtain ⟨q, rfl⟩ := Int.eq_ofNat_of_zero_le (show 0 ≤ k by omega)
  have e2 : seenF f q now = upd f q (some (seenV f q now)) := by unfold seenF; rw [if_pos (by omega)]
  have e1 : inR q = true := by unfold inR; simp; omega
  rw [e1, e2]
  have hc := h.cell q (by omega)
  have hfr := h.fr (1 + q)
  have hst := h.store q (by omega) (some (clk now)) (fun u hu => by cases hu; exact ⟨g0, g1⟩)
  have hr : 0 ≤ encR (f q) ∧ encR (f q) ≤ 1125899906842625 := by
    cases hv : f q with
    | none => simp [encR]
    | some v => have := h.rng q v hv; simp only [encR]; omega
  obtain ⟨x, hx⟩ : ∃ x, x = encR (f q) := ⟨_, rfl⟩
  rw [← hx] at hc hr
  obtain ⟨hr0, hr1⟩ := hr
  have HX := Lib.hid hx
  have HS := Lib.hid hst
  simp only [encR] at HS
  clear hx hst e1 e2
  by_cases hlt : x < clk now + 1
  · go_enter Try.func11, Try.ntmps11
    go_wp2_with (go_at_call 22; refine (time_any _ _).mono ?_; rintro e w' ⟨rfl, rfl⟩)
    go_ret
    have e3 : seenV f q now = clk now := by
      have hx := HX.out
      unfold seenV
      cases hv : f q with
      | none => rw [hv] at hx; simp [encR] at hx; simp; omega
      | some v => rw [hv] at hx; simp [encR] at hx; simp; omega
    rw [e3]
    exact ⟨rfl, HS.out, (Touch.refl _ _).setCell _ _ (.inl (by simp))⟩
  · go_enter Try.func11, Try.ntmps11
    go_wp2_with (go_at_call 22; refine (time_any _ _).mono ?_; rintro e w' ⟨rfl, rfl⟩)
    go_ret
    have e3 : upd f q (some (seenV f q now)) = f := by
      have hx := HX.out
      funext j
      unfold upd
      split
      · subst_vars
        unfold seenV
        cases hv : f q with
        | none => rw [hv] at hlt; simp [encR] at hlt; omega
        | some v => rw [hv] at hlt; simp [encR] at hlt; simp; omega
      · rfl
    rw [e3]
    exact ⟨rfl, h, Touch.refl _ _⟩

theorem rforget_any (w : World) (r : Nat) (L : Int) (f : Int → Option Int) (h : RefAt w r L f) (k : Int) :
    Calls Try.prog 13 #[.pointer (some ⟨r, 0, none⟩), .int .i64 k] w fun e w' => e = .returned (.bool (f k).isSome) ∧ RefAt w' r L (upd f k none) ∧ Touch [r] w w' := by
  have hl := rlast_any w r L f h k
  have HL := Lib.hid hl
  clear hl
  cases hv : f k with
  | none =>
    rw [hv] at HL
    have HV := Lib.hid hv
    clear hv
    go_enter Try.func13, Try.ntmps13
    go_wp2_with (go_at_call 15; refine HL.out.mono ?_; rintro e w' ⟨rfl, rfl⟩)
    go_ret
    have e : upd f k none = f := by
      funext j
      unfold upd
      split
      · subst_vars; exact HV.out.symm
      · rfl
    rw [e]
    exact ⟨rfl, h, Touch.refl _ _⟩
  | some v =>
    have hr := h.rng k v hv
    obtain ⟨q, rfl⟩ := Int.eq_ofNat_of_zero_le hr.1
    rw [hv] at HL
    have hc := h.cell q (by omega)
    have hfr := h.fr (1 + q)
    have hst := h.store q (by omega) none (fun u hu => by cases hu)
    rw [hv] at hc
    simp only [encR] at hc hst
    have HS := Lib.hid hst
    clear hv hst
    go_enter Try.func13, Try.ntmps13
    go_wp2_with (go_at_call 15; refine HL.out.mono ?_; rintro e w' ⟨rfl, rfl⟩)
    go_ret
    exact ⟨rfl, HS.out, (Touch.refl _ _).setCell _ _ (.inl (by simp))⟩

theorem ralive_any (w : World) (r : Nat) (L : Int) (f : Int → Option Int) (h : RefAt w r L f) (k now : Int) :
    Calls Try.prog 19 #[.pointer (some ⟨r, 0, none⟩), .int .i64 k, .int .i64 now] w fun e w' => e = .returned (.bool (aliveB L f k now)) ∧ ∃ j, w' = w.drewN j := by
  have c0 := h.c0
  have lo := h.lo
  have hi := h.hi
  have g1 := clk_lo now
  have g2 := clk_hi now
  have hl := rlast_any w r L f h k
  cases hv : f k with
  | none =>
    have hfin : aliveB L f k now = false := by simp [aliveB, hv]
    rw [hv] at hl
    have HL := Lib.hid hl
    have HF := Lib.hid hfin
    clear hl hfin hv
    go_enter Try.func19, Try.ntmps19
    go_wp2_with (go_at_call 15; refine HL.out.mono ?_; rintro e w' ⟨rfl, rfl⟩)
    go_quiet (fail)
    go_wp2
    go_ret
    rw [HF.out]
    exact ⟨rfl, _, rfl⟩
  | some t =>
    obtain ⟨_, _, t0, t1⟩ := h.rng k t hv
    have hfin : aliveB L f k now = decide (clk now - t ≤ L) := by simp [aliveB, hv]
    rw [hv] at hl
    have HL := Lib.hid hl
    have HF := Lib.hid hfin
    clear hl hfin hv
    go_enter Try.func19, Try.ntmps19
    go_wp2_with (go_at_call 15; refine HL.out.mono ?_; rintro e w' ⟨rfl, rfl⟩)
    go_quiet ((go_at_call 22; exact Calls.quiet_of_same (time_any _ _)))
    go_wp2
    go_ret
    rw [HF.out]
    exact ⟨rfl, _, rfl⟩

/-- the least due time of the nodes below n -/
def RDue (L : Int) (f : Int → Option Int) (now : Int) (n : Int) (t : Int) (is : Bool) : Prop :=
  (is = false ∧ t = 0 ∧ ∀ k v, k < n → f k = some v → aliveB L f k now = false) ∨
  (is = true ∧ 0 ≤ t ∧ (∃ k v, f k = some v ∧ aliveB L f k now = true ∧ t = v + L + 1) ∧ ∀ k v, k < n → f k = some v → aliveB L f k now = true → t ≤ v + L + 1)
theorem RDue.skip {L : Int} {f : Int → Option Int} {now n t : Int} {is : Bool} (h : RDue L f now n t is) (ha : aliveB L f n now = false) : RDue L f now (n + 1) t is := by
  rcases h with ⟨h1, h2, h3⟩ | ⟨h1, h0, h2, h3⟩
  · refine .inl ⟨h1, h2, fun k v hk hv => ?_⟩
    by_cases e : k = n
    · subst e; exact ha
    · exact h3 k v (by omega) hv
  · refine .inr ⟨h1, h0, h2, fun k v hk hv hal => ?_⟩
    by_cases e : k = n
    · subst e; rw [ha] at hal; cases hal
    · exact h3 k v (by omega) hv hal
theorem RDue.take {L : Int} {f : Int → Option Int} {now n t v : Int} {is : Bool} (h : RDue L f now n t is) (hv : f n = some v) (ha : aliveB L f n now = true) (h0 : 0 ≤ v + L + 1) (hl : is = false ∨ v + L + 1 < t) : RDue L f now (n + 1) (v + L + 1) true := by
  refine .inr ⟨rfl, h0, ⟨n, v, hv, ha, rfl⟩, fun k u hk hu hal => ?_⟩
  by_cases e : k = n
  · subst e; rw [hv] at hu; cases hu; omega
  · rcases h with ⟨h1, h2, h3⟩ | ⟨h1, h0, h2, h3⟩
    · rw [h3 k u (by omega) hu] at hal; cases hal
    · have := h3 k u (by omega) hu hal
      rcases hl with hl | hl
      · rw [h1] at hl; cases hl
      · omega
theorem RDue.keep {L : Int} {f : Int → Option Int} {now n t v : Int} (h : RDue L f now n t true) (hv : f n = some v) (hl : t ≤ v + L + 1) : RDue L f now (n + 1) t true := by
  rcases h with ⟨h1, _⟩ | ⟨h1, h0, h2, h3⟩
  · cases h1
  · refine .inr ⟨rfl, h0, h2, fun k u hk hu hal => ?_⟩
    by_cases e : k = n
    · subst e; rw [hv] at hu; cases hu; exact hl
    · exact h3 k u (by omega) hu hal
theorem RDue.rng {L : Int} {f : Int → Option Int} {now n t : Int} {is : Bool} (h : RDue L f now n t is) (hr : ∀ k v, f k = some v → 0 ≤ k ∧ k < 64 ∧ 0 ≤ v ∧ v ≤ 1125899906842624) (hL : L ≤ 1125899906842624) : 0 ≤ t ∧ t ≤ 2251799813685249 := by
  rcases h with ⟨_, rfl, _⟩ | ⟨_, h0, ⟨k, v, hv, _, rfl⟩, _⟩
  · omega
  · have := hr k v hv; omega
theorem RDue.due {L : Int} {f : Int → Option Int} {now t : Int} {is : Bool} (h : RDue L f now 64 t is) (hr : ∀ k v, f k = some v → 0 ≤ k ∧ k < 64 ∧ 0 ≤ v ∧ v ≤ 1125899906842624) : IsDue L f now t is := by
  rcases h with ⟨h1, h2, h3⟩ | ⟨h1, h0, h2, h3⟩
  · exact .inl ⟨h1, h2, fun k v hv => h3 k v (hr k v hv).2.1 hv⟩
  · exact .inr ⟨h1, h2, fun k v hv => h3 k v (hr k v hv).2.1 hv⟩
/-- there is one least due time -/
theorem IsDue.one {L : Int} {f : Int → Option Int} {now t u : Int} {is also : Bool} (h : IsDue L f now t is) (h' : IsDue L f now u also) : t = u ∧ is = also := by
  rcases h with ⟨rfl, rfl, h3⟩ | ⟨rfl, ⟨k, v, hv, ha, rfl⟩, h3⟩
  · rcases h' with ⟨rfl, rfl, _⟩ | ⟨rfl, ⟨k, v, hv, ha, rfl⟩, _⟩
    · exact ⟨rfl, rfl⟩
    · rw [h3 k v hv] at ha; cases ha
  · rcases h' with ⟨rfl, rfl, h4⟩ | ⟨rfl, ⟨k2, v2, hv2, ha2, rfl⟩, h4⟩
    · rw [h4 k v hv] at ha; cases ha
    · have := h3 k2 v2 hv2 ha2
      have := h4 k v hv ha
      exact ⟨by omega, rfl⟩

def RDueEnd (L : Int) (f : Int → Option Int) (now : Int) (w : World) (e : Ending) (w' : World) : Prop :=
  ∃ t is, e = .returned (.tuple #[.int .i64 t, .bool is]) ∧ IsDue L f now t is ∧ ∃ j, w' = w.drewN j

set_option maxHeartbeats 1000000 in
theorem rdue_any (w : World) (r : Nat) (L : Int) (f : Int → Option Int) (h : RefAt w r L f) (now : Int) :
    Calls Try.prog 17 #[.pointer (some ⟨r, 0, none⟩), .int .i64 now] w (RDueEnd L f now w) := by
  have lo := h.lo
  have hi := h.hi
  have c0 := h.c0
  have HR := Lib.hid h.rng
  go_enter Try.func17, Try.ntmps17
  go_wp2_with fail
  go_loopw [6, 7, 8] (fun u v x wr => ∃ (n : Nat) (t : Int) (is : Bool) (j : Nat), u = .int .i64 t ∧ v = .bool is ∧ x = .int .i64 n ∧ n ≤ 64 ∧ RDue L f now n t is ∧ wr = w.drewN j) (fun _ _ x _ => 64 - (intOf x).toNat)
  case atStart => exact ⟨0, 0, false, 0, rfl, rfl, rfl, by omega, .inl ⟨rfl, rfl, fun k v hk hv => by have := h.rng k v hv; omega⟩, rfl⟩
  case round =>
    obtain ⟨n, t, is, j, rfl, rfl, rfl, hn, hd, rfl⟩ := hrel
    have hrt := hd.rng HR.out hi
    obtain ⟨hrt0, hrt1⟩ := hrt
    by_cases h64 : n < 64
    · have hal := fun jj => ralive_any (World.drewN w jj) r L f (h.drewN jj) n now
      have hla := fun jj => rlast_any (World.drewN w jj) r L f (h.drewN jj) n
      have HA := Lib.hid hal
      have HLA := Lib.hid hla
      clear hal hla
      cases ha : aliveB L f n now with
      | false =>
        rw [ha] at HA
        have HD := Lib.hid (hd.skip ha)
        clear ha
        cases is
        all_goals
          go_wp2_with fail
          refine (HA.out _).mono ?_
          rintro e w2 ⟨rfl, j2, rfl⟩
          go_wp2_with fail
          refine (HLA.out _).mono ?_
          rintro e w2 ⟨rfl, rfl⟩
          go_wp2_with fail
          go_roundw
          case rel => exact ⟨n + 1, t, _, _, rfl, rfl, by go_num, by omega, by simpa using HD.out, rfl⟩
          case measure => simp [intOf]; omega
      | true =>
        obtain ⟨v, hv⟩ : ∃ v, f n = some v := by
          unfold aliveB at ha
          cases hv : f n with
          | none => rw [hv] at ha; cases ha
          | some v => exact ⟨v, rfl⟩
        obtain ⟨_, _, hv0, hv1⟩ := h.rng n v hv
        rw [ha] at HA
        rw [hv] at HLA
        have HV := Lib.hid hv
        have HL := Lib.hid ha
        clear ha hv
        cases is with
        | false =>
          go_wp2_with fail
          refine (HA.out _).mono ?_
          rintro e w2 ⟨rfl, j2, rfl⟩
          go_wp2_with fail
          refine (HLA.out _).mono ?_
          rintro e w2 ⟨rfl, rfl⟩
          go_wp2_with fail
          go_roundw
          case rel => exact ⟨n + 1, _, _, _, rfl, rfl, by go_num, by omega, by simpa using hd.take HV.out HL.out (by omega) (.inl rfl), rfl⟩
          case measure => simp [intOf]; omega
        | true =>
          by_cases hlt : v + L + 1 < t
          · go_wp2_with fail
            refine (HA.out _).mono ?_
            rintro e w2 ⟨rfl, j2, rfl⟩
            go_wp2_with fail
            refine (HLA.out _).mono ?_
            rintro e w2 ⟨rfl, rfl⟩
            go_wp2_with fail
            go_roundw
            case rel => exact ⟨n + 1, _, _, _, rfl, rfl, by go_num, by omega, by simpa using hd.take HV.out HL.out (by omega) (.inr hlt), rfl⟩
            case measure => simp [intOf]; omega
          · go_wp2_with fail
            refine (HA.out _).mono ?_
            rintro e w2 ⟨rfl, j2, rfl⟩
            go_wp2_with fail
            refine (HLA.out _).mono ?_
            rintro e w2 ⟨rfl, rfl⟩
            go_wp2_with fail
            go_roundw
            case rel => exact ⟨n + 1, _, _, _, rfl, rfl, by go_num, by omega, by simpa using hd.keep HV.out (by omega), rfl⟩
            case measure => simp [intOf]; omega
    · obtain rfl : n = 64 := by omega
      have HD := Lib.hid (hd.due HR.out)
      go_wp2_with fail
      go_ret2
      exact ⟨t, is, rfl, HD.out, _, rfl⟩

end Go.Proofs.Ytknkomnhfkbmiaa

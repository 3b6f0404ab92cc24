/- law09: more of a disk of the call's own; picks and texts that came in. -/
import Derived.Test.YtmglkhnojimnlaaGreatDiskOwn0
import Derived.Test.YtmglkhnojimnlaaGreatArgs
namespace Go.Proofs.YtmglkhnojimnlaaGreat
open Go.RowKit Go.Maps Go.WideMaps
open DM (N F FL Sorted)

theorem Own.fit {w0 w : World} {b n : Nat} {d : DM.D} (h : Own w0 w b n d) : Fit d.fl n := by
  obtain ⟨mo, hd, _⟩ := h
  exact hd.fit
theorem Own.turn {w0 w w' : World} {b n : Nat} {d d' : DM.D} (h : Own w0 w b n d) (hd : ∀ mo, DiskAt w b mo n d → DiskAt w' b mo n d') (ht : Touch [b] w w') : Own w0 w' b n d' := by
  obtain ⟨mo, h0, T, hb, hm⟩ := h
  exact ⟨mo, hd mo h0, T.trans ht (fun k hk => by simp at hk; subst hk; exact .inr hb), hb, hm⟩
theorem arm_own {w0 w : World} {b n : Nat} {d : DM.D} (h : Own w0 w b n d) (k : Int) :
    Calls Tryz.prog 27 #[.pointer (some ⟨b, 0, none⟩), .int .i64 k] w fun e w' => e = .returned (.tuple #[]) ∧ Own w0 w' b n (DM.arm d k) := by
  obtain ⟨mo, hd, T, hb, hm⟩ := h
  refine (arm_any w b n mo d hd k).mono ?_
  rintro e w' ⟨rfl, hd', ht⟩
  exact ⟨rfl, mo, hd', T.trans ht (fun k hk => by simp at hk; subst hk; exact .inr hb), hb, hm⟩
theorem limit_own {w0 w : World} {b n : Nat} {d : DM.D} (h : Own w0 w b n d) (k : Int) (hk : (Lit.int .i64 k).wf = true) :
    Calls Tryz.prog 29 #[.pointer (some ⟨b, 0, none⟩), .int .i64 k] w fun e w' => e = .returned (.tuple #[]) ∧ Own w0 w' b n (DM.limit d k) := by
  obtain ⟨mo, hd, T, hb, hm⟩ := h
  refine (limit_any w b n mo d hd k hk).mono ?_
  rintro e w' ⟨rfl, hd', ht⟩
  exact ⟨rfl, mo, hd', T.trans ht (fun k hk => by simp at hk; subst hk; exact .inr hb), hb, hm⟩
theorem on_own {w0 w : World} {b n : Nat} {d : DM.D} (h : Own w0 w b n d) :
    Calls Tryz.prog 38 #[.pointer (some ⟨b, 0, none⟩)] w fun e w' => e = .returned (.bool (!d.off)) ∧ w' = w := by
  obtain ⟨mo, hd, T, hb, hm⟩ := h
  exact on_any w b n mo d hd
theorem steps_own {w0 w : World} {b n : Nat} {d : DM.D} (h : Own w0 w b n d) :
    Calls Tryz.prog 9 #[.pointer (some ⟨b, 0, none⟩)] w fun e w' => e = .returned (.int .i64 d.done) ∧ w' = w := by
  obtain ⟨mo, hd, T, hb, hm⟩ := h
  exact steps_any w b n mo d hd

/-- picks that came in -/
def Picks (w : World) (v : Value) (ps : List Int) : Prop := ∀ S, (∀ k ∈ S, w.heap.size ≤ k) → PicksAt S w v ps
theorem Rd.picks {w : World} {a : Option Addr} {len cap : Nat} (h : Rd w 35 [.slice a len cap]) : ∃ ps, Picks w (.slice a len cap) ps := by
  obtain ⟨hl, hc, _, hs, he⟩ := h.rows Tryz.underlying35 (m := 1) (by kernel_rfl) (by omega)
  have key : ∀ i, ∃ x : Int, i < len → (Lit.int .i64 x).wf = true ∧ ∃ blk off, a = some ⟨blk, off, none⟩ ∧ w.cell? ⟨blk, off + i, none⟩ = some (.int .i64 x) := by
    intro i
    by_cases hi : i < len
    · obtain ⟨blk, off, cs, rfl, hlen, hcell, hrd⟩ := he i hi
      obtain ⟨x, rfl, hx⟩ := Rd.int Tryz.underlying3 hrd
      refine ⟨x, fun _ => ⟨hx, blk, off, rfl, ?_⟩⟩
      have := hcell 0 (by omega)
      rw [Nat.mul_one, Nat.add_zero] at this
      exact this
    · exact ⟨0, fun h => absurd h hi⟩
  obtain ⟨f, hf⟩ := Classical.axiomOfChoice key
  refine ⟨(List.range len).map f, fun S hS => ⟨a, cap, by simp, by simpa using hl, hc, fun p hp => ?_, fun hne => ?_⟩⟩
  · obtain ⟨i, hi, rfl⟩ := List.mem_map.1 hp
    exact (hf i (List.mem_range.1 hi)).1
  · have hpos : 0 < len := by
      rcases Nat.eq_zero_or_pos len with h0 | h0
      · subst h0; exact absurd rfl hne
      · exact h0
    obtain ⟨g, o, ha⟩ := hs hpos
    refine ⟨g, o, ha, fun hm => ?_, fun j hj => ?_⟩
    · obtain ⟨_, blk, off, hb, hcell⟩ := hf 0 hpos
      rw [ha] at hb
      cases hb
      have h1 := cell_lt' hcell
      have h2 := hS _ hm
      omega
    · have hj' : j < len := by simpa using hj
      obtain ⟨_, blk, off, hb, hcell⟩ := hf j hj'
      rw [ha] at hb
      cases hb
      rw [hcell]
      simp
theorem crash_in {w0 w : World} {b n : Nat} {d : DM.D} (h : Own w0 w b n d) (hn : n < 1099511627776) (a0 : Option Addr) (l0 c0 : Nat) (ps : List Int) (hp : Picks w0 (.slice a0 l0 c0) ps) {d' : DM.D} (hr : DM.crash d ps = d') :
    Calls Tryz.prog 21 #[.pointer (some ⟨b, 0, none⟩), .slice a0 l0 c0] w fun e w' => e = .returned (.tuple #[]) ∧ Own w0 w' b n d' :=
  crash_own h hn a0 l0 c0 ps (fun S hS => (hp S hS).touch (h.T.mono (by simp))) hr

/-- texts that came in -/
def TextsAt (w : World) (a : Option Addr) (len : Nat) (g : Nat → ByteArray) : Prop :=
  ∀ i, i < len → ∃ blk off, a = some ⟨blk, off, none⟩ ∧ w.cell? ⟨blk, off + i, none⟩ = some (.string (g i)) ∧ (g i).size ≤ maxLen
theorem Rd.texts {w : World} {a : Option Addr} {len cap : Nat} (h : Rd w 34 [.slice a len cap]) : len ≤ cap ∧ cap ≤ maxLen ∧ ∃ g, TextsAt w a len g := by
  obtain ⟨hl, hc, _, hs, he⟩ := h.rows Tryz.underlying34 (m := 1) (by kernel_rfl) (by omega)
  refine ⟨hl, hc, ?_⟩
  have key : ∀ i, ∃ x : ByteArray, i < len → ∃ blk off, a = some ⟨blk, off, none⟩ ∧ w.cell? ⟨blk, off + i, none⟩ = some (.string x) ∧ x.size ≤ maxLen := by
    intro i
    by_cases hi : i < len
    · obtain ⟨blk, off, cs, rfl, hlen, hcell, hrd⟩ := he i hi
      obtain ⟨x, rfl, hx⟩ := Rd.string Tryz.underlying9 hrd
      refine ⟨x, fun _ => ⟨blk, off, rfl, ?_, hx⟩⟩
      have := hcell 0 (by omega)
      rw [Nat.mul_one, Nat.add_zero] at this
      exact this
    · exact ⟨⟨#[]⟩, fun h => absurd h hi⟩
  obtain ⟨f, hf⟩ := Classical.axiomOfChoice key
  exact ⟨f, hf⟩
theorem TextsAt.touch {w w' : World} {a : Option Addr} {len : Nat} {g : Nat → ByteArray} (h : TextsAt w a len g) (ht : Touch [] w w') : TextsAt w' a len g := by
  intro i hi
  obtain ⟨blk, off, e, h0, h1⟩ := h i hi
  exact ⟨blk, off, e, ht.cell h0 (by simp), h1⟩
end Go.Proofs.YtmglkhnojimnlaaGreat

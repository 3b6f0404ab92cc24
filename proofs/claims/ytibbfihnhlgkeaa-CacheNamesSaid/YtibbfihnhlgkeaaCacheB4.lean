/- CacheNames: great letters and small ones are one name. -/
import Derived.Test.YtibbfihnhlgkeaaCacheB2
import Derived.Test.YtibbfihnhlgkeaaCacheB1
import Derived.Test.YtibbfihnhlgkeaaNameF
namespace Go.Proofs.Ytibbfihnhlgkeaa
open Go.RowKit Go.Maps Go.WideMaps
open NM (Bs bs ofBs)
open CM (It C)

/-- what is told, without how it lies -/
def TE (c : C) (k : ByteArray) (now : Int) : Option CM.E := (CM.tell c k now).map It.e
theorem TE_used (c : C) (g : Nat) (k : ByteArray) (now : Int) : TE (CM.used c g) k now = TE c k now := by
  unfold TE CM.tell
  rw [show CM.find (CM.used c g).h k = (CM.find c.h k).map (fun y => if y.g = g then { y with used := c.uses + 1 } else y) from upd_find c.h g (c.uses + 1) k]
  cases CM.find c.h k with
  | none => rfl
  | some y =>
    simp only [Option.map_some, Option.filter_some]
    by_cases h : y.g = g
    · simp only [if_pos h]
      split <;> simp_all
    · simp only [if_neg h]
theorem TE_one (q : C) (x : It) (hq : q.h = [x]) (k : ByteArray) (now : Int) (h : now ≤ x.e.til) : TE q k now = if x.key = k then some x.e else none := by
  unfold TE CM.tell
  rw [hq, CM.find_one]
  by_cases hk : x.key = k
  · rw [if_pos hk, if_pos hk]
    simp [Option.filter, h]
  · rw [if_neg hk, if_neg hk]
    rfl
def zE : CM.E := ⟨0, ⟨#[]⟩, 0, 0, [], 0, 0, 0, 0⟩
/-- Get and Name, in one form -/
def TellG (w0 w : World) (B : Nat) (c : C) (o : Option CM.E) (e : Ending) (w' : World) : Prop :=
  ∃ (E : CM.E) (a : Option Addr) (cp : Nat) (c' : C), e = .returned (.tuple #[.agg (entV E (.slice a E.recs.length cp)), .bool o.isSome]) ∧ (∀ E', o = some E' → E = E') ∧
    w'.ownsRow 0 68 5 (.slice a E.recs.length cp) E.recs.length (flat E.recs) ∧ OC w0 w' B c' ∧ c'.most = c.most ∧ c'.uses ≤ c.uses + 1 ∧ (∀ k now, TE c' k now = TE c k now) ∧ c'.h.length = c.h.length ∧ CStep w0 w w' ∧ E.recs.length ≤ 64
theorem TellG.of {w0 w : World} {B : Nat} {c : C} {k : ByteArray} {now : Int} {e : Ending} {w' : World} (I : CM.Inv c) (H : TellO w0 w B c (CM.tell c k now) e w') : TellG w0 w B c (TE c k now) e w' := by
  obtain ⟨S, H⟩ := H
  rcases H with ⟨h1, h2, h3⟩ | ⟨x, a, cp, h1, h2, h3, h4⟩
  · refine ⟨zE, none, 0, c, ?_, ?_, ?_, h3, rfl, by omega, fun _ _ => rfl, rfl, S, by show (0 : Nat) ≤ 64; omega⟩
    · rw [h2]
      unfold TE
      rw [h1]
      rfl
    · intro E' h
      unfold TE at h
      rw [h1] at h
      cases h
    · exact World.ownsRow_nil _ _ _ _
  · refine ⟨x.e, a, cp, CM.used c x.g, ?_, ?_, trow_base h3 (Nat.zero_le _), h4, rfl, Int.le_refl _, fun k now => TE_used c x.g k now, upd_length _ _ _, S, (check_name (I.key x (CM.tell_some h1).1).2).2.1⟩
    · rw [h2]
      unfold TE
      rw [h1]
      rfl
    · intro E' h
      unfold TE at h
      rw [h1] at h
      exact Option.some.inj h
theorem ogetI (w0 w : World) (B : Nat) (c : C) (h : OC w0 w B c) (n : ByteArray) (hn : n.size ≤ 1000000000000) (t cl : Int) (ht : 0 ≤ t ∧ t ≤ 65535) (hc : 0 ≤ cl ∧ cl ≤ 65535) (now : Int) (hu : c.uses ≤ 1099511627776) :
    Calls Try.prog 19 #[.pointer (some ⟨B, 0, none⟩), .string n, .int .u16 t, .int .u16 cl, .int .i64 now] w (TellG w0 w B c (TE c (ofBs (CM.keyB 0 (bs n) t cl)) now)) := by
  obtain ⟨t, rfl⟩ := Int.eq_ofNat_of_zero_le ht.1
  obtain ⟨cl, rfl⟩ := Int.eq_ofNat_of_zero_le hc.1
  exact (oget w0 w B c h n hn t cl now hu).mono (fun e w' H => TellG.of h.inv H)
theorem onameI (w0 w : World) (B : Nat) (c : C) (h : OC w0 w B c) (n : ByteArray) (hn : n.size ≤ 1000000000000) (cl : Int) (hc : 0 ≤ cl ∧ cl ≤ 65535) (now : Int) (hu : c.uses ≤ 1099511627776) :
    Calls Try.prog 22 #[.pointer (some ⟨B, 0, none⟩), .string n, .int .u16 cl, .int .i64 now] w (TellG w0 w B c (TE c (ofBs (CM.keyB 1 (bs n) 0 cl)) now)) := by
  obtain ⟨cl, rfl⟩ := Int.eq_ofNat_of_zero_le hc.1
  exact (oname w0 w B c h n hn cl now hu).mono (fun e w' H => TellG.of h.inv H)
/-- what the four questions of CacheNames are told -/
theorem names_told (E : CM.E) (hc : CM.check E = 0) (hT : 0 ≤ E.type ∧ E.type ≤ 65535) (hC : 0 ≤ E.cls ∧ E.cls ≤ 65535) (t cl : Int) (ht : 0 ≤ t ∧ t ≤ 65535) (hcl : 0 ≤ cl ∧ cl ≤ 65535) (low : ByteArray) (hl : bs low = NM.lower (bs E.name))
    (q : C) (x : It) (hq : q.h = [x]) (hx : x.e = E) (hk : x.key = CM.key E) :
    TE q (ofBs (CM.keyB 0 (bs low) t cl)) 0 = (if E.kind = 3 then none else if t = E.type ∧ cl = E.cls then some E else none) ∧
    TE q (ofBs (CM.keyB 1 (bs low) 0 cl)) 0 = (if E.kind = 3 then (if cl = E.cls then some E else none) else none) := by
  have ht0 : 0 ≤ x.e.til := by rw [hx]; exact (check_name hc).2.2.1
  have hinj : ∀ p p' t' t'' c' c'', p < 256 → p' < 256 → (0 ≤ t' ∧ t' ≤ 65535) → (0 ≤ t'' ∧ t'' ≤ 65535) → (0 ≤ c' ∧ c' ≤ 65535) → (0 ≤ c'' ∧ c'' ≤ 65535) →
      (ofBs (CM.keyB p (bs E.name) t' c') = ofBs (CM.keyB p' (bs low) t'' c'') ↔ p = p' ∧ t' = t'' ∧ c' = c'') := by
    intro p p' t' t'' c' c'' h1 h2 h3 h4 h5 h6
    rw [hl, CM.keyB_lower]
    constructor
    · intro h
      have := congrArg bs h
      rw [NM.bs_ofBs, NM.bs_ofBs] at this
      exact CM.keyB_inj h1 h2 h3 h4 h5 h6 this
    · rintro ⟨rfl, rfl, rfl⟩
      rfl
  rw [TE_one q x hq _ _ ht0, TE_one q x hq _ _ ht0, hk, hx]
  unfold CM.key
  by_cases h3 : E.kind = 3
  · simp only [if_pos h3]
    constructor
    · rw [if_neg]
      rw [hinj 1 0 0 t E.cls cl (by omega) (by omega) (by omega) ht hC hcl]
      omega
    · have := hinj 1 1 0 0 E.cls cl (by omega) (by omega) (by omega) (by omega) hC hcl
      by_cases h4 : cl = E.cls
      · rw [if_pos (this.2 ⟨rfl, rfl, h4.symm⟩), if_pos h4]
      · rw [if_neg (fun h => h4 (this.1 h).2.2.symm), if_neg h4]
  · simp only [if_neg h3]
    constructor
    · have := hinj 0 0 E.type t E.cls cl (by omega) (by omega) hT ht hC hcl
      by_cases h4 : t = E.type ∧ cl = E.cls
      · rw [if_pos (this.2 ⟨rfl, h4.1.symm, h4.2.symm⟩), if_pos h4]
      · rw [if_neg (fun h => h4 ⟨(this.1 h).2.1.symm, (this.1 h).2.2.symm⟩), if_neg h4]
    · rw [if_neg]
      rw [hinj 0 1 E.type 0 E.cls cl (by omega) (by omega) hT (by omega) hC hcl]
      omega
end Go.Proofs.Ytibbfihnhlgkeaa

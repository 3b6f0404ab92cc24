/- A cache in memory: its map of keys; drop. -/
import Derived.Test.YtibbfihnhlgkeaaGreatCacheR
import Derived.Test.YtibbfihnhlgkeaaGreatCacheN
import Derived.StringKeys
namespace Go.Proofs.YtibbfihnhlgkeaaGreat
open Go.RowKit Go.Maps Go.WideMaps
open NM (Bs bs ofBs)
open CM (It C)

/-- how a pointer to an entry reads -/
def RP : Value → Option (DataW Unit × List MemPlace)
  | .pointer none => some (.lit (.bool false), [])
  | .pointer (some ⟨g, 0, none⟩) => some (.lit (.int .i64 (g : Int)), [])
  | _ => none
def pd (g : Nat) : DataW Unit := .lit (.int .i64 (g : Int))
theorem RP_ptr (x : It) : RP (ptr x) = some (pd x.g, []) := rfl
theorem RP_inv {v : Value} {g : Nat} {ps : List MemPlace} (h : RP v = some (pd g, ps)) : v = .pointer (some ⟨g, 0, none⟩) := by
  unfold RP at h
  split at h
  · simp [pd] at h
  · simp only [pd, Option.some.injEq, Prod.mk.injEq, DataW.lit.injEq, Lit.int.injEq] at h
    rw [Int.ofNat_inj.1 h.1.2]
  · cases h
theorem RP_none {v : Value} {ps : List MemPlace} (h : RP v = some (.lit (.bool false), ps)) : v = .pointer none := by
  unfold RP at h
  split at h
  · rfl
  · simp at h
  · cases h
theorem zeroP (w : World) : (zeroValue 66).run Tryz.prog w = .ok (.pointer none) w := by kernel_rfl
theorem kstr : Keyed Tryz.prog 9 := string_keyed Tryz.underlying9

structure ViewP (Dm : DataW Unit) (l : List It) : Prop where
  has : ∀ k : ByteArray, Maps.has Dm (.string (bs k)) = (CM.find l k).isSome
  at_ : ∀ (k : ByteArray) x z, CM.find l k = some x → Dm.atKey (.string (bs k)) z = pd x.g
  size : Maps.size Dm = l.length
def MapP (w : World) (mo : Option Nat) (l : List It) : Prop :=
  (mo = none ∧ l = []) ∨ ∃ mb Dm, mo = some mb ∧ w.ownsMap Tryz.prog 9 RP mb l.length Dm ∧ ViewP Dm l

/-- the pointer to what has a key -/
def hit (l : List It) (k : ByteArray) : Value := match CM.find l k with
  | none => .pointer none
  | some x => ptr x
theorem find_perm {l m : List It} (h : l.Perm m) (hk : (l.map It.key).Nodup) (k : ByteArray) : CM.find l k = CM.find m k := by
  have hk2 : (m.map It.key).Nodup := (h.map _).nodup_iff.1 hk
  cases e : CM.find m k with
  | none =>
    cases e2 : CM.find l k with
    | none => rfl
    | some x =>
      obtain ⟨h1, h2⟩ := CM.find_some e2
      exact absurd h2 (CM.find_none e x (h.subset h1))
  | some x =>
    obtain ⟨h1, rfl⟩ := CM.find_some e
    exact CM.find_of hk (h.symm.subset h1)
theorem find_cons (x : It) (l : List It) (k : ByteArray) : CM.find (x :: l) k = if x.key = k then some x else CM.find l k := by
  unfold CM.find
  rw [List.find?_cons]
  by_cases h : x.key = k
  · simp [h]
  · simp [h]
theorem ViewP.perm {Dm : DataW Unit} {l m : List It} (h : ViewP Dm l) (p : l.Perm m) (hk : (l.map It.key).Nodup) : ViewP Dm m :=
  ⟨fun k => by rw [← find_perm p hk]; exact h.has k, fun k x z e => h.at_ k x z (by rw [find_perm p hk]; exact e), by rw [h.size, p.length_eq]⟩
theorem ownsMap_shrink {P : Program} {w : World} {k : TypeId} {R : Value → Option (DataW Unit × List MemPlace)} {b n m : Nat} {D : DataW Unit} (h : w.ownsMap P k R b n D) (hm : Maps.size D ≤ m) : w.ownsMap P k R b m D := by
  obtain ⟨es, clock, hb, F, _, rfl⟩ := h
  exact ⟨es, clock, hb, F, by simpa [Maps.size, length_sorted] using hm, rfl⟩
theorem MapP.perm {w : World} {mo : Option Nat} {l m : List It} (h : MapP w mo l) (p : l.Perm m) (hk : (l.map It.key).Nodup) : MapP w mo m := by
  rcases h with ⟨rfl, rfl⟩ | ⟨mb, Dm, rfl, h1, h2⟩
  · exact .inl ⟨rfl, p.nil_eq.symm⟩
  · exact .inr ⟨mb, Dm, rfl, by rw [← p.length_eq]; exact h1, h2.perm p hk⟩
theorem MapP.touch {w w' : World} {S : List Nat} {mo : Option Nat} {l : List It} (h : MapP w mo l) (t : Touch S w w') (hn : ∀ m, mo = some m → m ∉ S) : MapP w' mo l := by
  rcases h with h | ⟨mb, Dm, rfl, ⟨es, clock, hh, hr⟩, h2⟩
  · exact .inl h
  · exact .inr ⟨mb, Dm, rfl, ⟨es, clock, t.heap hh (hn mb rfl), hr⟩, h2⟩
theorem MapP.look {w : World} {mo : Option Nat} {l : List It} (h : MapP w mo l) (s : ByteArray) (hs : s.size ≤ maxLen) :
    (Instr.lookup 52 (.map mo) (.string s) true).run Tryz.prog w = .ok (.tuple #[hit l s, .bool (CM.find l s).isSome]) w := by
  rcases h with ⟨rfl, rfl⟩ | ⟨mb, Dm, rfl, hown, hv⟩
  · rw [Maps.look_nil true kstr Tryz.underlying52 (zeroP w) (keyOf_string_mk Tryz.underlying9 hs)]
    simp [hit, CM.find]
  · obtain ⟨v, ps, hrun, hR⟩ := hown.look_ok kstr Tryz.underlying52 (zeroP w) (zd := .lit (.bool false)) (zp := []) rfl (keyOf_string_mk Tryz.underlying9 hs)
    rw [hrun]
    rw [show Maps.has Dm (.string s.data.toList) = (CM.find l s).isSome from hv.has s]
    change RP v = some (Dm.atKey (.string (bs s)) (.lit (.bool false)), ps) at hR
    cases hf : CM.find l s with
    | none =>
      have := atKey_of_not_has (D := Dm) (k := .string (bs s)) (by rw [hv.has, hf]; rfl) (.lit (.bool false))
      rw [this] at hR
      rw [RP_none hR]
      simp [hit, hf]
    | some x =>
      rw [hv.at_ s x _ hf] at hR
      rw [RP_inv hR]
      simp [hit, hf, ptr]
theorem MapP.len {w : World} {mo : Option Nat} {l : List It} (h : MapP w mo l) (ty : TypeId) : (Builtin.len_ #[52] ty #[.map mo]).run Tryz.prog w = .ok (.int .i64 (l.length : Int)) w := by
  rcases h with ⟨rfl, rfl⟩ | ⟨mb, Dm, rfl, hown, hv⟩
  · exact Maps.len_nil Tryz.underlying52 ty
  · rw [hown.len Tryz.underlying52, hv.size]
/-- an entry's key is taken out -/
theorem MapP.drop {w : World} {mo : Option Nat} {l l' : List It} {x : It} (h : MapP w mo l) (hk : (l.map It.key).Nodup) (p : (x :: l').Perm l) (hs : x.key.size ≤ maxLen) :
    ∃ w', (∀ ty, (Builtin.delete_ #[52, 9] ty #[.map mo, .string x.key]).run Tryz.prog w = .ok (.tuple #[]) w') ∧ MapP w' mo l' ∧ Touch mo.toList w w' := by
  rcases h with ⟨rfl, rfl⟩ | ⟨mb, Dm, rfl, hown, hv⟩
  · exact absurd p.length_eq (by simp)
  · obtain ⟨w', hrun, hown', ht⟩ := hown.drop kstr Tryz.underlying52 (keyOf_string_mk Tryz.underlying9 hs) 0
    have hv2 := hv.perm p.symm hk
    have hk2 : ((x :: l').map It.key).Nodup := (p.map _).nodup_iff.2 hk
    rw [List.map_cons, List.nodup_cons] at hk2
    have hfx : CM.find l' x.key = none := by
      cases e : CM.find l' x.key with
      | none => rfl
      | some y =>
        obtain ⟨h1, h2⟩ := CM.find_some e
        exact absurd (h2 ▸ List.mem_map_of_mem h1) hk2.1
    have hview : ViewP (Dm.del (.string (bs x.key))) l' := by
      refine ⟨fun k => ?_, fun k y z e => ?_, ?_⟩
      · by_cases e : k = x.key
        · subst e
          rw [has_del_same, hfx]
          rfl
        · rw [has_del_other (by simpa using fun h => e (NM.bs_inj h)), hv2.has, find_cons, if_neg (fun h => e h.symm)]
      · have hne : k ≠ x.key := fun h => by rw [h, hfx] at e; cases e
        rw [atKey_del_other (by simpa using fun h => hne (NM.bs_inj h))]
        exact hv2.at_ k y z (by rw [find_cons, if_neg (fun h => hne h.symm)]; exact e)
      · have h1 := size_del (k := .string (bs x.key)) (hown.tidy kstr)
        rw [if_pos (by rw [hv2.has, find_cons, if_pos rfl]; rfl)] at h1
        have h2 := hv2.size
        rw [List.length_cons] at h2
        omega
    exact ⟨w', fun ty => hrun, .inr ⟨mb, _, rfl, ownsMap_shrink hown' (Nat.le_of_eq hview.size), hview⟩, Touch.of_grown ht.grown⟩
/-- a new key is put in -/
theorem MapP.put {w : World} {mb : Nat} {l l' : List It} {x : It} (h : MapP w (some mb) l) (hk : ∀ y ∈ l, y.key ≠ x.key) (p : l'.Perm (x :: l)) (hk2 : (l.map It.key).Nodup) (hs : x.key.size ≤ maxLen) (hl : l.length < maxLen) :
    ∃ w', (Instr.mapUpdate 52 (.map (some mb)) (.string x.key) (ptr x)).run Tryz.prog w = .ok () w' ∧ MapP w' (some mb) l' ∧ Touch [mb] w w' := by
  rcases h with ⟨h, _⟩ | ⟨mb, Dm, e, hown, hv⟩
  · cases h
  · cases e
    obtain ⟨w', hrun, hown', ht⟩ := hown.store kstr Tryz.underlying52 hl (keyOf_string_mk Tryz.underlying9 hs) (RP_ptr x)
    have hfx : CM.find l x.key = none := by
      cases e : CM.find l x.key with
      | none => rfl
      | some y =>
        obtain ⟨h1, h2⟩ := CM.find_some e
        exact absurd h2 (hk y h1)
    have hkl : WideAt.IsKeyLit (.string (bs x.key)) := trivial
    have hview : ViewP (Dm.put (.string (bs x.key)) (pd x.g)) (x :: l) := by
      refine ⟨fun k => ?_, fun k y z e => ?_, ?_⟩
      · rw [find_cons]
        by_cases e : x.key = k
        · subst e
          rw [has_put_same hown.isMap hkl, if_pos rfl]
          rfl
        · rw [has_put_other (by simpa using fun h => e (NM.bs_inj h).symm), if_neg e, hv.has]
      · rw [find_cons] at e
        by_cases e2 : x.key = k
        · subst e2
          rw [if_pos rfl] at e
          cases e
          rw [atKey_put_same hown.isMap hkl]
        · rw [if_neg e2] at e
          rw [atKey_put_other (by simpa using fun h => e2 (NM.bs_inj h).symm)]
          exact hv.at_ k y z e
      · rw [size_put (hown.tidy kstr), if_neg (by rw [hv.has, hfx]; simp), hv.size]
        rfl
    have hkn : ((x :: l).map It.key).Nodup := by
      rw [List.map_cons, List.nodup_cons]
      refine ⟨fun hm => ?_, hk2⟩
      obtain ⟨y, hy, e⟩ := List.mem_map.1 hm
      exact hk y hy e
    have hm : MapP w' (some mb) (x :: l) := .inr ⟨mb, _, rfl, ownsMap_shrink hown' (Nat.le_of_eq hview.size), hview⟩
    exact ⟨w', hrun, hm.perm p.symm hkn, Touch.of_grown ht.grown⟩
end Go.Proofs.YtibbfihnhlgkeaaGreat

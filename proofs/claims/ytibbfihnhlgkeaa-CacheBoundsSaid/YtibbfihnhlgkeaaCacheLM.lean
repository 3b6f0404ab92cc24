/- The cache as plain data: what the laws want of it. No program here. -/
import Derived.Test.YtibbfihnhlgkeaaCacheM2
namespace Go.Proofs.Ytibbfihnhlgkeaa.CM
open NM (Bs bs ofBs)

theorem push_nil (y : It) : push [] y = [y] := by
  unfold push up
  simp
theorem trim_one (m : Int) (hm : 1 ≤ m) (y : It) (now : Int) : trim m [y] now = [y] := by
  unfold trim
  have h : ¬ m < (([y] : List It).length : Int) := by simp; omega
  simp only [h, if_false]
theorem put_nil (c : C) (hc : c.h = []) (x : It) (now : Int) : (put c x now).h = [{ x with used := c.uses + 1 }] := by
  show trim (room c) (push (without c.h x.key) _) now = _
  rw [hc]
  show trim (room c) (push [] _) now = _
  rw [push_nil, trim_one _ (room_pos c)]
theorem find_one (y : It) (k : ByteArray) : find [y] k = if y.key = k then some y else none := by
  unfold find
  by_cases h : y.key = k <;> simp [h]
theorem drop_one (y : It) : dropG [y] y.g = [] := by
  unfold dropG place remove
  simp
theorem put_same (c : C) (y : It) (hc : c.h = [y]) (x : It) (hk : y.key = x.key) (now : Int) : (put c x now).h = [{ x with used := c.uses + 1 }] := by
  show trim (room c) (push (without c.h x.key) _) now = _
  have h : without c.h x.key = [] := by
    unfold without
    rw [hc, find_one, if_pos hk]
    exact drop_one y
  rw [h, push_nil, trim_one _ (room_pos c)]
theorem put_uses (c : C) (x : It) (now : Int) : (put c x now).uses = c.uses + 1 ∧ (put c x now).most = c.most := ⟨rfl, rfl⟩
theorem used_uses (c : C) (g : Nat) : (used c g).uses = c.uses + 1 ∧ (used c g).most = c.most := ⟨rfl, rfl⟩
theorem refused_nil (c : C) (hc : c.h = []) (e : E) (now : Int) : refused c.h e now = false := by
  unfold refused
  rw [hc]
  rfl
theorem refused_rank (l : List It) (r : Int) (hr : ∀ x ∈ l, x.e.rank = r) (e : E) (he : e.rank = r) (now : Int) : refused l e now = false := by
  unfold refused
  cases h : find l (key e) with
  | none => rfl
  | some x =>
    have := hr x (find_some h).1
    simp
    omega

/-! ### keys -/
set_option maxRecDepth 100000 in
theorem lower_lower (n : Bs) : NM.lower (NM.lower n) = NM.lower n := by
  unfold NM.lower
  rw [List.map_map]
  exact List.map_congr_left (fun b _ => by
    have : ∀ b : Fin 256, NM.lo (NM.lo (UInt8.ofNat b.val)) = NM.lo (UInt8.ofNat b.val) := by decide
    have h := this ⟨b.toNat, UInt8.toNat_lt b⟩
    simpa using h)
theorem u8_inj {a b : Nat} (ha : a < 256) (hb : b < 256) (h : UInt8.ofNat a = UInt8.ofNat b) : a = b := by
  have := congrArg UInt8.toNat h
  simp at this
  omega
theorem u8_mod {a b : Nat} (h : UInt8.ofNat a = UInt8.ofNat b) : a % 256 = b % 256 := by
  have := congrArg UInt8.toNat h
  simpa using this
theorem keyB_inj {p p' : Nat} {n : Bs} {t t' c c' : Int} (hp : p < 256) (hp' : p' < 256) (ht : 0 ≤ t ∧ t ≤ 65535) (ht' : 0 ≤ t' ∧ t' ≤ 65535) (hc : 0 ≤ c ∧ c ≤ 65535) (hc' : 0 ≤ c' ∧ c' ≤ 65535)
    (h : keyB p n t c = keyB p' n t' c') : p = p' ∧ t = t' ∧ c = c' := by
  unfold keyB at h
  rw [List.cons.injEq, List.append_cancel_left_eq] at h
  obtain ⟨h1, h2⟩ := h
  simp only [List.cons.injEq, and_true] at h2
  obtain ⟨h2, h3, h4, h5⟩ := h2
  have e1 := u8_inj hp hp' h1
  have e2 := u8_inj (by omega) (by omega) h2
  have e3 := u8_mod h3
  have e4 := u8_inj (by omega) (by omega) h4
  have e5 := u8_mod h5
  exact ⟨e1, by omega, by omega⟩
theorem keyB_lower (p : Nat) (n : Bs) (t c : Int) : keyB p (NM.lower n) t c = keyB p n t c := by unfold keyB; rw [lower_lower]
end Go.Proofs.Ytibbfihnhlgkeaa.CM

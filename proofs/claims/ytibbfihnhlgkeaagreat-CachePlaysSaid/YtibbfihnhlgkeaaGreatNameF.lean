/- Package name: Lower, and the document's. -/
import Derived.Test.YtibbfihnhlgkeaaGreatChecked
import Derived.Test.YtibbfihnhlgkeaaGreatNameM
import Derived.Deep.CutRange
import Derived.Laws.IdiomStrings
namespace Go.Proofs.YtibbfihnhlgkeaaGreat
open Go.RowKit Go.Maps
open NM (Bs bs ofBs)

theorem touch_frozen {S : List Nat} {w w' : World} {a : Addr} (h : Touch S w w') (hl : a.block < w.heap.size) (hn : a.block ∉ S) : w'.frozen? a = w.frozen? a := by
  unfold World.frozen?
  rw [h.block _ hl hn]
theorem touch_cell {S : List Nat} {w w' : World} {a : Addr} {v : Value} (h : Touch S w w') (hc : w.cell? a = some v) (hn : a.block ∉ S) : w'.cell? a = some v := by
  have hl := World.block_lt_of_cell? w a hc
  exact (World.cell?_of_block (h.block _ hl hn)).trans hc
/-- a block whose first cells are bytes, and may be written -/
def Bytes (w : World) (g : Nat) (l : Bs) : Prop := ∀ j (hj : j < l.length), w.cell? ⟨g, j, none⟩ = some (.int .u8 (l[j].toNat : Int)) ∧ w.frozen? ⟨g, j, none⟩ = false
theorem Bytes.set_ {w : World} {g : Nat} {l : Bs} (h : Bytes w g l) (i : Nat) (b : UInt8) : Bytes (w.setCell ⟨g, i, none⟩ (.int .u8 (b.toNat : Int))) g (l.set i b) := by
  intro j hj
  have hj2 : j < l.length := by rwa [List.length_set] at hj
  obtain ⟨h1, h2⟩ := h j hj2
  refine ⟨?_, by rw [World.frozen?_setCell]; exact h2⟩
  by_cases e : i = j
  · subst e
    rw [List.getElem_set_self]
    exact World.cell?_setCell_same' w _ _ (by rw [h1]; rfl)
  · rw [List.getElem_set_ne e]
    exact (World.cell?_setCell_other _ _ _ _ (by intro e2; exact e (by injection e2 with _ e3 _))).trans h1
theorem Bytes.touch {S : List Nat} {w w' : World} {g : Nat} {l : Bs} (h : Bytes w g l) (t : Touch S w w') (hn : g ∉ S) : Bytes w' g l := fun j hj =>
  ⟨touch_cell t (h j hj).1 hn, (touch_frozen t (World.block_lt_of_cell? _ _ (h j hj).1) hn).trans (h j hj).2⟩
/-- the bytes of a text, laid -/
theorem bytes_laid (w : World) (s : ByteArray) (t : TypeId) (cw : Nat) (hw : s.size ≤ cw) : Bytes ((w.alloc (Obj.cells (bytesRow s cw) t ((bytesRow s cw).size, (bytesRow s cw).size + 1))).drew) w.heap.size (bs s) := by
  intro j hj
  rw [NM.bs_length] at hj
  have hj' : j < s.data.size := hj
  refine ⟨?_, ?_⟩
  · refine ((World.cell?_alloc_mark w _ _ _ j).trans (bytesRow_at s cw j hj')).trans ?_
    have : (bs s)[j]'(by rw [NM.bs_length]; exact hj) = s.data[j] := by unfold bs; rw [Array.getElem_toList]
    rw [this]
  · refine (World.frozen?_alloc_mark w _ _ _ _ j).trans ?_
    have : j < (bytesRow s cw).size := by unfold bytesRow; rw [Array.size_append, Array.size_map]; omega
    simp; omega
theorem bytes_back (W : World) (g : Nat) (l : Bs) (cap : Nat) (h : Bytes W g l) : (convert 85 9 (.slice (some ⟨g, 0, none⟩) l.length cap)).run Tryz.prog W = .ok (.string (ofBs l)) W := by
  have := run_convert_bytes_back (P := Tryz.prog) W 85 9 5 ⟨g, 0, none⟩ cap l Tryz.underlying85 Tryz.underlying5 Tryz.underlying9 (fun j hj => by
    have e : (⟨g, 0, none⟩ : Addr).add j = ⟨g, j, none⟩ := by unfold Addr.add; split <;> simp_all
    rw [e]
    exact (h j hj).1)
  exact this

/-! ### a text half of which has small letters -/
def half (l : Bs) (i : Nat) : Bs := (l.take i).map NM.lo ++ l.drop i
theorem half_length (l : Bs) (i : Nat) (h : i ≤ l.length) : (half l i).length = l.length := by unfold half; simp; omega
theorem half_zero (l : Bs) : half l 0 = l := by simp [half]
theorem half_end (l : Bs) : half l l.length = NM.lower l := by simp [half, NM.lower]
theorem half_at (l : Bs) (i : Nat) (h : i < l.length) (h2 : i < (half l i).length) : (half l i)[i] = l[i] := by
  have e : (half l i)[i]? = l[i]? := by
    unfold half
    rw [List.getElem?_append_right (by simp; omega), List.getElem?_drop]
    congr 1
    simp; omega
  rw [List.getElem?_eq_getElem h2, List.getElem?_eq_getElem h] at e
  exact Option.some.inj e
theorem half_step (l : Bs) (i : Nat) (h : i < l.length) : (half l i).set i (NM.lo l[i]) = half l (i + 1) := by
  have e1 : l.drop i = l[i] :: l.drop (i + 1) := List.drop_eq_getElem_cons h
  have e2 : l.take (i + 1) = l.take i ++ [l[i]] := List.take_succ_eq_append_getElem h
  have e3 : i - ((l.take i).map NM.lo).length = 0 := by simp; omega
  unfold half
  rw [List.set_append_right _ _ (by simp; omega), e3, e1, List.set_cons_zero, e2, List.map_append, List.append_assoc]
  rfl
theorem half_same (l : Bs) (i : Nat) (h : i < l.length) (e : NM.lo l[i] = l[i]) : half l (i + 1) = half l i := by
  rw [← half_step l i h, e]
  have h2 : i < (half l i).length := by rw [half_length l i (by omega)]; exact h
  have h3 := half_at l i h h2
  conv => lhs; rw [← h3]
  exact List.set_getElem_self h2
theorem or_32 (c : UInt8) (h : 65 ≤ c ∧ c ≤ 90) : bits .or .u8 (c.toNat : Int) 32 = ((NM.lo c).toNat : Int) := by
  have key : ∀ a : Fin 256, 65 ≤ a.1 → a.1 ≤ 90 → bits .or .u8 (a.1 : Int) 32 = ((a.1 + 32 : Nat) : Int) := by decide +kernel
  obtain ⟨h1, h2⟩ := h
  rw [UInt8.le_iff_toNat_le] at h1 h2
  have e1 : (65 : UInt8).toNat = 65 := rfl
  have e2 : (90 : UInt8).toNat = 90 := rfl
  rw [NM.lo_toNat, if_pos (by omega)]
  exact key ⟨c.toNat, c.toNat_lt⟩ (by show 65 ≤ c.toNat; omega) (by show c.toNat ≤ 90; omega)
theorem add_32 (c : UInt8) (h : 65 ≤ c ∧ c ≤ 90) : IntKind.u8.wrap ((c.toNat : Int) + 32) = ((NM.lo c).toNat : Int) := by
  rw [NM.lo_toNat]
  obtain ⟨h1, h2⟩ := h
  rw [UInt8.le_iff_toNat_le] at h1 h2
  have e1 : (65 : UInt8).toNat = 65 := rfl
  have e2 : (90 : UInt8).toNat = 90 := rfl
  rw [if_pos (by omega), IntKind.wrap_u8]
  omega

set_option maxRecDepth 10000 in
set_option maxHeartbeats 1000000 in
theorem nlower_any (w : World) (s : ByteArray) (hs : s.size ≤ 1099511627776) : Calls Tryz.prog 47 #[.string s] w fun e w' => e = .returned (.string (ofBs (NM.lower (bs s)))) ∧ Touch [] w w' := by
  have hcv := fun w s => run_bytes_of_string (P := Tryz.prog) w 9 85 5 s Tryz.underlying9 Tryz.underlying85 Tryz.underlying5
  go_enter Tryz.func47, Tryz.ntmps47
  go_wp2_with fail
  obtain ⟨cw, hcw⟩ : ∃ cw, cw = grownCap w s.size 0 5 := ⟨_, rfl⟩
  have hcc : s.size ≤ cw := by rw [hcw]; exact grownCap_ge _ _ _ _
  rw [← hcw]
  have hb0 := bytes_laid w s 5 cw hcc
  have T0 : Touch [] w ((w.alloc (Obj.cells (bytesRow s cw) 5 ((bytesRow s cw).size, (bytesRow s cw).size + 1))).drew) := ((Touch.refl [] w).alloc _).drew_
  obtain ⟨w1, hw1⟩ : ∃ w1, w1 = ((w.alloc (Obj.cells (bytesRow s cw) 5 ((bytesRow s cw).size, (bytesRow s cw).size + 1))).drew) := ⟨_, rfl⟩
  rw [← hw1] at hb0 T0 ⊢
  obtain ⟨G, hG⟩ : ∃ G, G = w.heap.size := ⟨_, rfl⟩
  rw [← hG] at hb0 ⊢
  have HG := Lib.hid hG
  have hl := NM.bs_length s
  have HL := Lib.hid hl
  clear hw1 hcw hG hcv hl
  go_loopw [9] (fun v wr => ∃ i : Nat, i ≤ s.size ∧ v = .int .i64 (i : Int) ∧ Bytes wr G (half (bs s) i) ∧ Touch [] w wr) (fun v _ => s.size - (intOf v).toNat)
  case atStart => exact ⟨0, Nat.zero_le _, rfl, by rw [half_zero]; exact hb0, T0⟩
  case round =>
    obtain ⟨i, hi, rfl, hb, hT⟩ := hrel
    obtain ⟨wo, rfl⟩ : ∃ wo, wo = wr := ⟨_, rfl⟩
    by_cases hlt : i < s.size
    · have hltI : (i : Int) < (s.size : Int) := by omega
      have hwr : wrap64 ((i : Int) + 1) = (i : Int) + 1 := IntWalk.wrap64_in _ (by omega)
      have hi2 : i < (bs s).length := by rw [NM.bs_length]; exact hlt
      have hi3 : i < (half (bs s) i).length := by rw [half_length _ _ (by omega)]; exact hi2
      obtain ⟨hc, hf⟩ := hb i hi3
      have hst := half_step (bs s) i hi2
      have hsm := half_same (bs s) i hi2
      have hor := or_32 (bs s)[i]
      rw [half_at _ _ hi2] at hc
      obtain ⟨c, hcc2⟩ : ∃ c, c = (bs s)[i] := ⟨_, rfl⟩
      rw [← hcc2] at hc hst hsm hor
      have HST := Lib.hid hst
      have HSM := Lib.hid hsm
      have HB := Lib.hid hb
      clear hst hsm hb hcc2 hi2 hi3
      by_cases h65 : 65 ≤ c.toNat
      · have h65I : (65 : Int) ≤ (c.toNat : Int) := by omega
        by_cases h90 : c.toNat ≤ 90
        · have h90I : (c.toNat : Int) ≤ 90 := by omega
          have hor2 := hor ⟨by rw [UInt8.le_iff_toNat_le]; exact h65, by rw [UInt8.le_iff_toNat_le]; exact h90⟩
          clear hor
          go_wp2_with fail
          go_roundw
          case rel =>
            refine ⟨i + 1, by omega, by simp, ?_, hT.setCell _ _ (.inr (by rw [HG.out]; exact Nat.le_refl _))⟩
            rw [← HST.out]
            exact HB.out.set_ i _
          case measure => simp [intOf]; omega
        · have h90I : (90 : Int) < (c.toNat : Int) := by omega
          have e : NM.lo c = c := UInt8.toNat_inj.1 (by rw [NM.lo_toNat, if_neg (by omega)])
          clear hor
          go_wp2_with fail
          go_roundw
          case rel => exact ⟨i + 1, by omega, by simp, by rw [HSM.out e]; exact HB.out, hT⟩
          case measure => simp [intOf]; omega
      · have h65I : (c.toNat : Int) < 65 := by omega
        have e : NM.lo c = c := UInt8.toNat_inj.1 (by rw [NM.lo_toNat, if_neg (by omega)])
        clear hor
        go_wp2_with fail
        go_roundw
        case rel => exact ⟨i + 1, by omega, by simp, by rw [HSM.out e]; exact HB.out, hT⟩
        case measure => simp [intOf]; omega
    · have hge : (s.size : Int) ≤ (i : Int) := by omega
      have hlow : half (bs s) i = NM.lower (bs s) := by rw [show i = (bs s).length by rw [NM.bs_length]; omega, half_end]
      have hbk := bytes_back wo G (half (bs s) i) cw hb
      rw [half_length _ _ (by rw [NM.bs_length]; exact hi), NM.bs_length, hlow] at hbk
      go_wp2_with fail
      go_ret
      exact ⟨rfl, hT⟩
set_option maxRecDepth 10000 in
set_option maxHeartbeats 1000000 in
theorem rlower_any (w : World) (s : ByteArray) (hs : s.size ≤ 1099511627776) : Calls Tryz.prog 48 #[.string s] w fun e w' => e = .returned (.string (ofBs (NM.lower (bs s)))) ∧ Touch [] w w' := by
  have hcv := fun w s => run_bytes_of_string (P := Tryz.prog) w 9 85 5 s Tryz.underlying9 Tryz.underlying85 Tryz.underlying5
  go_enter Tryz.func48, Tryz.ntmps48
  go_wp2_with fail
  obtain ⟨cw, hcw⟩ : ∃ cw, cw = grownCap w s.size 0 5 := ⟨_, rfl⟩
  have hcc : s.size ≤ cw := by rw [hcw]; exact grownCap_ge _ _ _ _
  rw [← hcw]
  have hb0 := bytes_laid w s 5 cw hcc
  have T0 : Touch [] w ((w.alloc (Obj.cells (bytesRow s cw) 5 ((bytesRow s cw).size, (bytesRow s cw).size + 1))).drew) := ((Touch.refl [] w).alloc _).drew_
  obtain ⟨w1, hw1⟩ : ∃ w1, w1 = ((w.alloc (Obj.cells (bytesRow s cw) 5 ((bytesRow s cw).size, (bytesRow s cw).size + 1))).drew) := ⟨_, rfl⟩
  rw [← hw1] at hb0 T0 ⊢
  obtain ⟨G, hG⟩ : ∃ G, G = w.heap.size := ⟨_, rfl⟩
  rw [← hG] at hb0 ⊢
  have HG := Lib.hid hG
  clear hw1 hcw hG hcv
  go_loopw [4] (fun v wr => ∃ i : Nat, i ≤ s.size ∧ v = .int .i64 (i : Int) ∧ Bytes wr G (half (bs s) i) ∧ Touch [] w wr) (fun v _ => s.size - (intOf v).toNat)
  case atStart => exact ⟨0, Nat.zero_le _, rfl, by rw [half_zero]; exact hb0, T0⟩
  case round =>
    obtain ⟨i, hi, rfl, hb, hT⟩ := hrel
    obtain ⟨wo, rfl⟩ : ∃ wo, wo = wr := ⟨_, rfl⟩
    by_cases hlt : i < s.size
    · have hltI : (i : Int) < (s.size : Int) := by omega
      have hwr : wrap64 ((i : Int) + 1) = (i : Int) + 1 := IntWalk.wrap64_in _ (by omega)
      have hi2 : i < (bs s).length := by rw [NM.bs_length]; exact hlt
      have hi3 : i < (half (bs s) i).length := by rw [half_length _ _ (by omega)]; exact hi2
      obtain ⟨hc, hf⟩ := hb i hi3
      have hst := half_step (bs s) i hi2
      have hsm := half_same (bs s) i hi2
      have hor := add_32 (bs s)[i]
      rw [half_at _ _ hi2] at hc
      obtain ⟨c, hcc2⟩ : ∃ c, c = (bs s)[i] := ⟨_, rfl⟩
      rw [← hcc2] at hc hst hsm hor
      have HST := Lib.hid hst
      have HSM := Lib.hid hsm
      have HB := Lib.hid hb
      clear hst hsm hb hcc2 hi2 hi3
      by_cases h65 : 65 ≤ c.toNat
      · have h65I : (65 : Int) ≤ (c.toNat : Int) := by omega
        by_cases h90 : c.toNat ≤ 90
        · have h90I : (c.toNat : Int) ≤ 90 := by omega
          have hor2 := hor ⟨by rw [UInt8.le_iff_toNat_le]; exact h65, by rw [UInt8.le_iff_toNat_le]; exact h90⟩
          clear hor
          go_wp2_with fail
          go_roundw
          case rel =>
            refine ⟨i + 1, by omega, by simp, ?_, hT.setCell _ _ (.inr (by rw [HG.out]; exact Nat.le_refl _))⟩
            rw [← HST.out]
            exact HB.out.set_ i _
          case measure => simp [intOf]; omega
        · have h90I : (90 : Int) < (c.toNat : Int) := by omega
          have e : NM.lo c = c := UInt8.toNat_inj.1 (by rw [NM.lo_toNat, if_neg (by omega)])
          clear hor
          go_wp2_with fail
          go_roundw
          case rel => exact ⟨i + 1, by omega, by simp, by rw [HSM.out e]; exact HB.out, hT⟩
          case measure => simp [intOf]; omega
      · have h65I : (c.toNat : Int) < 65 := by omega
        have e : NM.lo c = c := UInt8.toNat_inj.1 (by rw [NM.lo_toNat, if_neg (by omega)])
        clear hor
        go_wp2_with fail
        go_roundw
        case rel => exact ⟨i + 1, by omega, by simp, by rw [HSM.out e]; exact HB.out, hT⟩
        case measure => simp [intOf]; omega
    · have hge : (s.size : Int) ≤ (i : Int) := by omega
      have hlow : half (bs s) i = NM.lower (bs s) := by rw [show i = (bs s).length by rw [NM.bs_length]; omega, half_end]
      have hbk := bytes_back wo G (half (bs s) i) cw hb
      rw [half_length _ _ (by rw [NM.bs_length]; exact hi), NM.bs_length, hlow] at hbk
      go_wp2_with fail
      go_ret
      exact ⟨rfl, hT⟩
end Go.Proofs.YtibbfihnhlgkeaaGreat

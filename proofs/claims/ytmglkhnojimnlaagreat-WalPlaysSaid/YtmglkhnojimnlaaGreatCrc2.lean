/- Package crc: bytes, behind, Of. -/
import Derived.Test.YtmglkhnojimnlaaGreatCrc
import Derived.Test.YtmglkhnojimnlaaGreatArgs
import Derived.Lib.Strings
namespace Go.Proofs.YtmglkhnojimnlaaGreat
open Go.RowKit Go.Maps

def zeros : Array Value := Array.replicate 256 (.int .u32 0)
theorem zeros_size : zeros.size = 256 := by simp [zeros]
theorem zero_info : (Tryz.prog.info? 117).map (fun i => (i.zero, i.size)) = some (some (.agg zeros), 256) := by kernel_rfl
def tabV : Array Value := (Array.range 256).map (fun i => .int .u32 (WM.tab i : Int))
theorem tabV_size : tabV.size = 256 := by simp [tabV]
theorem tabV_at (i : Nat) (h : i < 256) : tabV[i]? = some (.int .u32 (WM.tab i : Int)) := by simp [tabV, h]
theorem tabV_one : tabV.all (·.oneCell') = true := by
  rw [Array.all_eq_true_iff_forall_mem]
  intro x hx
  simp only [tabV, Array.mem_map] at hx
  obtain ⟨i, _, rfl⟩ := hx
  rfl
theorem results_cell {fn : Func} {p : Tmp} {ty : TypeId} (h : fn.results = #[.cell p ty]) (tmps : Array Value) (P : Program) (w : World) :
    (results fn tmps).run P w = ((asAddr (tmps.getD p undef)).run P w).andThen fun a w₁ => (loadVar ty a).run P w₁ := by
  simp only [results, h]
  simp [Sem.run_bind, Result.andThen]
theorem Blk.range {w : World} {g : Nat} {t : TypeId} {cs : Array Value} (h : Blk w g t cs) : w.rangeAt g 0 cs.toList := fun j v hv => by
  rw [Nat.zero_add, h.cell j]
  simpa using hv
theorem Touch.setCells {S : List Nat} {w w' : World} (h : Touch S w w') (b : Nat) (hb : b ∈ S ∨ w.heap.size ≤ b) : ∀ (vs : List Value) (o : Nat), Touch S w (w'.setCells b o vs)
  | vs, o => by
    have key : ∀ (vs : List Value) (o : Nat) (x : World), Touch S w x → Touch S w (x.setCells b o vs) := by
      intro vs
      induction vs with
      | nil => intro o x hx; exact hx
      | cons v r ih => intro o x hx; exact ih (o + 1) _ (hx.setCell ⟨b, o, none⟩ v hb)
    exact key vs o w' h
set_option maxRecDepth 10000 in
set_option maxHeartbeats 1600000 in
theorem bytes_any (w : World) : Calls Tryz.prog 95 #[] w fun e w' => e = .returned (.agg tabV) ∧ Touch [] w w' := by
  obtain ⟨hz, hi⟩ := zero_of_info zero_info
  have HI := Lib.hid hi
  clear hi
  go_enter Tryz.func95, Tryz.ntmps95
  go_wp2_with fail
  have b0 : Blk ((w.alloc (.cells zeros 117)).alloc (.cells zeros 117)) w.heap.size 117 zeros := (Blk.new w _ _).alloc _
  have b1 : Blk ((w.alloc (.cells zeros 117)).alloc (.cells zeros 117)) (w.heap.size + 1) 117 zeros := Blk.new' _ _ _ (by simp)
  have t0 : Touch [] w ((w.alloc (.cells zeros 117)).alloc (.cells zeros 117)) := ((Touch.refl [] w).alloc _).alloc _
  go_loopw [3] (fun u wr => ∃ (k : Nat) (cs : Array Value), u = .int .i64 k ∧ k ≤ 256 ∧ Blk wr (w.heap.size + 1) 117 cs ∧ cs.size = 256 ∧ (∀ j : Nat, j < k → cs[j]? = some (.int .u32 (WM.tab j : Int))) ∧ Blk wr w.heap.size 117 zeros ∧ Touch [] w wr)
    (fun u _ => 256 - (intOf u).toNat)
  case atStart => exact ⟨0, zeros, rfl, by omega, b1, zeros_size, fun j hj => absurd hj (Nat.not_lt_zero _), b0, t0⟩
  case round =>
    obtain ⟨k, cs, rfl, hk, hB, hcs, hcj, hA, hT⟩ := hrel
    have HC := Lib.hid hcj
    clear hcj b0 b1 t0
    by_cases hlt : k < 256
    · obtain ⟨old, hold⟩ : ∃ old, wr.cell? ⟨w.heap.size + 1, k, none⟩ = some old := ⟨_, (hB.cell k).trans (Array.getElem?_eq_getElem (by omega))⟩
      have hfr := hB.frozen k
      go_wp2_with fail
      refine (times_any k (by omega) wr).mono ?_
      rintro e w' ⟨rfl, rfl⟩
      go_wp2_with fail
      go_roundw
      case rel =>
        refine ⟨k + 1, _, by go_num, by omega, hB.set_ k _, by simpa using hcs, fun j hj => ?_, hA.far (by simp) _, hT.setCell _ _ (.inr (by simp))⟩
        rw [Array.getElem?_setIfInBounds]
        by_cases e : k = j
        · subst e; rw [if_pos rfl, if_pos (by omega)]
        · rw [if_neg e]; exact HC.out j (by omega)
      case measure => simp [intOf]; omega
    · obtain rfl : k = 256 := by omega
      have hcst : cs = tabV := by
        apply Array.ext_getElem?
        intro j
        by_cases hj : j < 256
        · rw [HC.out j hj, tabV_at j hj]
        · rw [Array.getElem?_eq_none (by omega), Array.getElem?_eq_none (by rw [tabV_size]; omega)]
      subst hcst
      have hthere : wr.there w.heap.size 0 tabV.size := fun j hj => by
        rw [Nat.zero_add]
        refine ⟨?_, hA.frozen j⟩
        rw [hA.cell j, Array.getElem?_eq_getElem (by rw [zeros_size]; rw [tabV_size] at hj; exact hj)]
        rfl
      have HTH := Lib.hid hthere
      have HRG := Lib.hid hB.range
      have hlen : tabV.toList.length = 256 := by rw [Array.length_toList, tabV_size]
      have HLN := Lib.hid hlen
      clear hthere hlen hcs
      go_wp2_with (first
        | (with_reducible refine wpList_load_mid rfl 117 (.tmp 1) rfl (w.heap.size + 1) 0 rfl tabV.toList (.array 256 93) HRG.out Tryz.underlying117 rfl (by rw [HLN.out]; exact HI.out) ?_)
        | (with_reducible refine wpList_store_mid rfl 117 (.tmp 0) (.tmp 12) rfl w.heap.size 0 tabV rfl rfl HTH.out (by rw [tabV_size]; exact HI.out) tabV_one ?_))
      have hld : (loadVar 117 ⟨w.heap.size, 0, none⟩).run Tryz.prog (wr.setCells w.heap.size 0 tabV.toList) = .ok (.agg tabV) (wr.setCells w.heap.size 0 tabV.toList) := by
        have := run_loadVar_mid (P := Tryz.prog) (wr.setCells w.heap.size 0 tabV.toList) w.heap.size 0 117 tabV.toList (.array 256 93) (World.rangeAt_setCells_same _ _ _ _ (by rw [HLN.out, ← tabV_size]; exact HTH.out)) Tryz.underlying117 rfl (by rw [HLN.out]; exact HI.out)
        simpa using this
      refine bodyPost_ret (v := .agg tabV) ?_ rfl ⟨rfl, hT.setCells w.heap.size (.inr (Nat.le_refl _)) _ _⟩
      rw [results_cell rfl]
      simp [asAddr, Result.andThen, hld, Act.put]

def bs (s : ByteArray) : WM.Bs := s.data.toList
theorem bs_length (s : ByteArray) : (bs s).length = s.size := by unfold bs; rw [Array.length_toList]; rfl
/-- texts in cells -/
def PartsAt (w : World) (g o : Nat) (pl : List ByteArray) : Prop := ∀ (i : Nat) (h : i < pl.length), w.cell? ⟨g, o + i, none⟩ = some (.string pl[i])
set_option maxRecDepth 10000 in
set_option maxHeartbeats 1600000 in
theorem behind_any (w : World) (c0 : Nat) (hc0 : c0 < 4294967296) (g o cap : Nat) (pl : List ByteArray) (hp : PartsAt w g o pl) (hn : pl.length ≤ cap) (hcap : cap ≤ maxLen) (hsz : ∀ s ∈ pl, s.size ≤ maxLen) :
    Calls Tryz.prog 72 #[.int .u32 (c0 : Int), .slice (some ⟨g, o, none⟩) pl.length cap] w fun e w' => e = .returned (.int .u32 (WM.run c0 (pl.flatMap bs) : Int)) ∧ Touch [] w w' := by
  obtain ⟨hz, hi⟩ := zero_of_info zero_info
  have HI := Lib.hid hi
  have HC := Lib.hid hc0
  have HP := Lib.hid hp
  have HSZ := Lib.hid hsz
  unfold maxLen at hcap
  clear hi hc0 hp hsz
  go_enter Tryz.func72, Tryz.ntmps72
  go_wp2_with fail
  refine (bytes_any w).mono ?_
  rintro e w1 ⟨rfl, T1⟩
  have hz1 : Blk (w1.alloc (.cells zeros 117)) w1.heap.size 117 zeros := Blk.new _ _ _
  have hthere : (w1.alloc (.cells zeros 117)).there w1.heap.size 0 tabV.size := fun j hj => by
    rw [Nat.zero_add]
    refine ⟨?_, hz1.frozen j⟩
    rw [hz1.cell j, Array.getElem?_eq_getElem (by rw [zeros_size]; rw [tabV_size] at hj; exact hj)]
    rfl
  have HTH := Lib.hid hthere
  clear hthere hz1
  go_wp2_with (first
    | (with_reducible refine wpList_store_mid rfl 117 (.tmp 5) (.tmp 9) rfl w1.heap.size 0 tabV rfl rfl HTH.out (by rw [tabV_size]; exact HI.out) tabV_one ?_))
  have hra : ((w1.alloc (.cells zeros 117)).setCells w1.heap.size 0 tabV.toList).rangeAt w1.heap.size 0 tabV.toList := World.rangeAt_setCells_same _ _ _ _ (by rw [Array.length_toList]; exact HTH.out)
  have hT2 : Touch [] w ((w1.alloc (.cells zeros 117)).setCells w1.heap.size 0 tabV.toList) := (T1.alloc _).setCells _ (.inr T1.size) _ _
  have hT12 : Touch [] w ((w1.alloc (.cells zeros 117)).setCells w1.heap.size 0 tabV.toList) := hT2
  generalize (w1.alloc (.cells zeros 117)).setCells w1.heap.size 0 tabV.toList = w2 at hra hT2 hT12 ⊢
  have htab : ∀ x : Nat, x < 256 → w2.cell? ⟨w1.heap.size, x, none⟩ = some (.int .u32 (WM.tab x : Int)) := fun x hx => by
    have := hra x (.int .u32 (WM.tab x : Int)) (by rw [Array.getElem?_toList]; exact tabV_at x hx)
    rwa [Nat.zero_add] at this
  have HTB := Lib.hid htab
  have hcl : ∀ (i : Nat) (h : i < pl.length), w2.cell? ⟨g, o + i, none⟩ = some (.string pl[i]) := fun i h => hT2.cell (HP.out i h) (by simp)
  have HCL := Lib.hid hcl
  have HT2 := Lib.hid hT2
  clear hra hT2 hT12 htab hcl HTH T1
  have hpb : (pl.length : Int) ≤ 9223372036854775807 := by omega
  go_loop [0, 12] (fun u v => ∃ k : Nat, k ≤ pl.length ∧ u = .int .u32 (WM.run c0 ((pl.take k).flatMap bs) : Int) ∧ v = .int .i64 k) (fun _ v => pl.length - (intOf v).toNat)
  case atStart => exact ⟨0, Nat.zero_le _, by simp [WM.run], rfl⟩
  case round =>
    obtain ⟨k, hk, rfl, rfl⟩ := hrel
    by_cases hkl : k < pl.length
    · have hck := HCL.out k hkl
      have hsk := HSZ.out _ (List.getElem_mem hkl)
      have hck0 := WM.run_lt ((pl.take k).flatMap bs) c0 HC.out
      have hsum : WM.run c0 ((pl.take (k + 1)).flatMap bs) = WM.run (WM.run c0 ((pl.take k).flatMap bs)) (bs pl[k]) := by
        rw [List.take_succ_eq_append_getElem hkl, List.flatMap_append, WM.run_append]
        simp
      obtain ⟨s, hs⟩ : ∃ s, s = pl[k] := ⟨_, rfl⟩
      obtain ⟨ck, hckk⟩ : ∃ ck, ck = WM.run c0 ((pl.take k).flatMap bs) := ⟨_, rfl⟩
      rw [← hs] at hck hsk hsum
      rw [← hckk] at hsum hck0 ⊢
      have HSUM := Lib.hid hsum
      have HCK := Lib.hid hck0
      unfold maxLen at hsk
      have hskI : (s.size : Int) ≤ 9223372036854775807 := by omega
      clear hs hckk hsum hck0
      go_wp2_with fail
      go_loop [0, 18] (fun u v => ∃ i : Nat, i ≤ s.size ∧ u = .int .u32 (WM.run ck ((bs s).take i) : Int) ∧ v = .int .i64 i) (fun _ v => s.size - (intOf v).toNat)
      case atStart => exact ⟨0, Nat.zero_le _, by simp [WM.run], rfl⟩
      case round =>
        obtain ⟨i, hi, rfl, rfl⟩ := hrel
        by_cases hil : i < s.size
        · have hil2 : i < (bs s).length := by rw [bs_length]; exact hil
          have hstep : WM.run ck ((bs s).take (i + 1)) = WM.upd (WM.run ck ((bs s).take i)) (bs s)[i] := by
            rw [List.take_succ_eq_append_getElem hil2, WM.run_append]
            rfl
          have hcl' := WM.run_lt ((bs s).take i) ck HCK.out
          obtain ⟨c, hc⟩ : ∃ c, c = WM.run ck ((bs s).take i) := ⟨_, rfl⟩
          rw [← hc] at hstep hcl' ⊢
          obtain ⟨sb, hsb⟩ : ∃ sb : UInt8, s[i]'hil = sb := ⟨_, rfl⟩
          have hsb2 : (bs s)[i] = sb := by
            have h9 : (bs s)[i]? = some (s[i]'hil) := by
              show s.data.toList[i]? = _
              rw [Array.getElem?_toList, Array.getElem?_eq_getElem hil]
              rfl
            rw [List.getElem?_eq_getElem hil2, hsb] at h9
            exact Option.some.inj h9
          rw [hsb2] at hstep
          have HST := Lib.hid hstep
          have hx : bits .xor .u8 ((c : Int) % 256) (sb.toNat : Int) = (((c % 256) ^^^ sb.toNat : Nat) : Int) := by
            have := bx_u8 (c % 256) sb.toNat (Nat.mod_lt _ (by decide)) sb.toNat_lt
            rw [← this]
            congr 1
          have hxl := WM.low_lt c sb
          have htx := HTB.out _ hxl
          have htl := WM.tab_lt (Nat.lt_trans hxl (by decide : 256 < 4294967296))
          obtain ⟨x, hxx⟩ : ∃ x, x = (c % 256) ^^^ sb.toNat := ⟨_, rfl⟩
          have hud : WM.upd c sb = WM.tab x ^^^ (c >>> 8) := by rw [hxx]; rfl
          rw [← hxx] at hx hxl htx htl
          have hx2 : bits .xor .u32 (WM.tab x : Int) ((c : Int) / 256) = ((WM.upd c sb : Nat) : Int) := by
            rw [hud]
            have := bx_u32 (WM.tab x) (c >>> 8) htl (by rw [Nat.shiftRight_eq_div_pow]; omega)
            rw [← this, Nat.shiftRight_eq_div_pow]
            congr 1
          have hxI : (x : Int) < 256 := by omega
          clear hstep hc hsb2 hxx hud htl hcl' hil2
          go_wp2_with fail
          go_round
          case rel => exact ⟨i + 1, by omega, by rw [HST.out], by go_num⟩
          case measure => simp [intOf]; omega
        · obtain rfl : i = s.size := by omega
          have hall : (bs s).take s.size = bs s := List.take_of_length_le (by rw [bs_length]; exact Nat.le_refl _)
          rw [hall, ← HSUM.out]
          go_wp2_with fail
          go_round
          case rel => exact ⟨k + 1, by omega, rfl, by go_num⟩
          case measure => simp [intOf]; omega
    · obtain rfl : k = pl.length := by omega
      rw [List.take_length]
      go_wp2_with fail
      go_ret
      exact ⟨rfl, HT2.out⟩
theorem of_any (w : World) (g o cap : Nat) (pl : List ByteArray) (hp : PartsAt w g o pl) (hn : pl.length ≤ cap) (hcap : cap ≤ maxLen) (hsz : ∀ s ∈ pl, s.size ≤ maxLen) :
    Calls Tryz.prog 37 #[.slice (some ⟨g, o, none⟩) pl.length cap] w fun e w' => e = .returned (.int .u32 (WM.crc (pl.flatMap bs) : Int)) ∧ Touch [] w w' := by
  have hb := behind_any w 4294967295 (by decide) g o cap pl hp hn hcap hsz
  have hlt := WM.run_lt (pl.flatMap bs) 4294967295 (by decide)
  obtain ⟨c, hc⟩ : ∃ c, c = WM.run 4294967295 (pl.flatMap bs) := ⟨_, rfl⟩
  have hcrc : WM.crc (pl.flatMap bs) = 4294967295 ^^^ c := by rw [hc]; rfl
  rw [← hc] at hb hlt
  have HB := Lib.hid hb
  have hx : bits .xor .u32 4294967295 (c : Int) = ((4294967295 ^^^ c : Nat) : Int) := bx_u32 4294967295 c (by decide) hlt
  have hx2 : bits .xor .u32 (c : Int) 4294967295 = ((4294967295 ^^^ c : Nat) : Int) := by
    have := bx_u32 c 4294967295 hlt (by decide)
    rw [Nat.xor_comm] at this
    exact this
  rw [hcrc]
  have HL := Lib.hid hlt
  clear hb hc hcrc hlt hp hsz
  go_enter Tryz.func37, Tryz.ntmps37
  go_wp2_with fail
  refine HB.out.mono ?_
  rintro e w1 ⟨rfl, T1⟩
  go_wp2_with fail
  go_ret
  exact ⟨congrArg (fun z => Ending.returned (Value.int .u32 z)) (show bits .xor .u32 IntKind.u32.max (c : Int) = _ from hx), T1⟩
end Go.Proofs.YtmglkhnojimnlaaGreat

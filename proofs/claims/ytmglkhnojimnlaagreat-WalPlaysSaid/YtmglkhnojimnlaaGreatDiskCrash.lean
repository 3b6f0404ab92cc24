/- Package disk: Crash. -/
import Derived.Test.YtmglkhnojimnlaaGreatDiskRen2
import Derived.Test.YtmglkhnojimnlaaGreatDiskCrashM
import Derived.Deep.CutRange
import Derived.Laws.IdiomStrings
namespace Go.Proofs.YtmglkhnojimnlaaGreat
open Go.RowKit Go.Maps Go.WideMaps
open DM (N F FL Sorted)

/-- a slice of picks, in blocks out of S -/
def PicksAt (S : List Nat) (w : World) (v : Value) (ps : List Int) : Prop :=
  ∃ (a : Option Addr) (cap : Nat), v = .slice a ps.length cap ∧ ps.length ≤ cap ∧ cap ≤ maxLen ∧ (∀ p ∈ ps, (Lit.int .i64 p).wf = true) ∧
    (ps ≠ [] → ∃ g o, a = some ⟨g, o, none⟩ ∧ g ∉ S ∧ ∀ (j : Nat) (hj : j < ps.length), w.cell? ⟨g, o + j, none⟩ = some (.int .i64 ps[j]))
theorem PicksAt.touch {S : List Nat} {w w' : World} {v : Value} {ps : List Int} (h : PicksAt S w v ps) (ht : Touch S w w') : PicksAt S w' v ps := by
  obtain ⟨a, cap, h1, h2, h3, h4, h5⟩ := h
  refine ⟨a, cap, h1, h2, h3, h4, fun hne => ?_⟩
  obtain ⟨g, o, ha, hg, hc⟩ := h5 hne
  exact ⟨g, o, ha, hg, fun j hj => ht.cell (hc j hj) hg⟩

theorem next_any (S : List Nat) (w : World) (B : Nat) (v : Value) (ps : List Int) (hB : Blk w B 35 #[v]) (hS : B ∈ S) (hp : PicksAt S w v ps) :
    Calls Tryz.prog 53 #[.pointer (some ⟨B, 0, none⟩)] w fun e w' => e = .returned (.int .i64 (DM.pick ps).1) ∧ ∃ v', Blk w' B 35 #[v'] ∧ PicksAt S w' v' (DM.pick ps).2 ∧ Touch [B] w w' := by
  obtain ⟨a, cap, rfl, h2, h3, h4, h5⟩ := hp
  cases ps with
  | nil =>
    refine (next_nil w B _ cap a (hB.cell 0) rfl).mono ?_
    rintro e w' ⟨rfl, rfl⟩
    exact ⟨rfl, _, hB, ⟨a, cap, rfl, h2, h3, h4, fun h => absurd rfl h⟩, Touch.refl _ _⟩
  | cons p ps =>
    obtain ⟨g, o, rfl, hg, hc⟩ := h5 (by simp)
    refine (next_some w B ps.length cap g o p (hB.cell 0) (by simpa using h2) h3 (hB.frozen 0) (hc 0 (by simp))).mono ?_
    rintro e w' ⟨rfl, o', ho, rfl⟩
    have hT : Touch [B] w (w.setCell ⟨B, 0, none⟩ (.slice (some ⟨g, o', none⟩) ps.length (cap - 1))) := (Touch.refl _ _).setCell _ _ (.inl (by simp))
    refine ⟨rfl, _, hB.set_ 0 _, ⟨_, _, rfl, by simp at h2; show ps.length ≤ cap - 1; omega, by omega, fun q hq => h4 q (List.mem_cons_of_mem _ hq), fun hne => ⟨g, o', rfl, hg, fun j hj => ?_⟩⟩, hT⟩
    have hlen : 0 < ps.length := List.length_pos_iff.2 hne
    obtain rfl := ho hlen
    have h6 := hc (j + 1) (by simp; exact hj)
    have h7 := hT.cell h6 (by simp; intro h; exact hg (h ▸ hS))
    rw [show o + 1 + j = o + (j + 1) by omega]
    exact h7
theorem PicksAt.grow {S : List Nat} {w : World} {v : Value} {ps : List Int} {G : Nat} (h : PicksAt S w v ps) (hG : w.heap.size ≤ G) : PicksAt (G :: S) w v ps := by
  obtain ⟨a, cap, h1, h2, h3, h4, h5⟩ := h
  refine ⟨a, cap, h1, h2, h3, h4, fun hne => ?_⟩
  obtain ⟨g, o, ha, hg, hc⟩ := h5 hne
  have hlt := cell_lt' (hc 0 (List.length_pos_iff.2 hne))
  exact ⟨g, o, ha, by simp only [List.mem_cons, not_or]; exact ⟨by omega, by simpa using hg⟩, hc⟩
theorem PicksAt.less {S S' : List Nat} {w : World} {v : Value} {ps : List Int} (h : PicksAt S w v ps) (hs : ∀ k ∈ S', k ∈ S) : PicksAt S' w v ps := by
  obtain ⟨a, cap, h1, h2, h3, h4, h5⟩ := h
  refine ⟨a, cap, h1, h2, h3, h4, fun hne => ?_⟩
  obtain ⟨g, o, ha, hg, hc⟩ := h5 hne
  exact ⟨g, o, ha, fun h => hg (hs _ h), hc⟩
theorem PicksAt.wf {S : List Nat} {w : World} {v : Value} {ps : List Int} (h : PicksAt S w v ps) : (Lit.int .i64 (DM.pick ps).1).wf = true := by
  obtain ⟨a, cap, _, _, _, h4, _⟩ := h
  cases ps with
  | nil => decide
  | cons p ps => exact h4 p (by simp)
theorem ownsMap_shrink {P : Program} {w : World} {k : TypeId} {R : Value → Option (DataW Unit × List MemPlace)} {b n m : Nat} {D : DataW Unit} (h : w.ownsMap P k R b n D) (hm : Maps.size D ≤ m) : w.ownsMap P k R b m D := by
  obtain ⟨es, clock, hb, F, hs, rfl⟩ := h
  exact ⟨es, clock, hb, F, by simpa [Maps.size, length_sorted] using hm, rfl⟩

theorem Touch.frozen {S : List Nat} {w w' : World} {a : Addr} (h : Touch S w w') (hl : a.block < w.heap.size) (hn : a.block ∉ S) : w'.frozen? a = w.frozen? a := by
  unfold World.frozen?
  rw [h.block _ hl hn]
theorem flip_data (b : ByteArray) : (DM.flip b).data = b.data.setIfInBounds (b.size - 1) (255 - b.data[b.size - 1]!) := by
  obtain ⟨d⟩ := b
  rfl
theorem flip_at (b : ByteArray) (j : Nat) (hj : j < (DM.flip b).data.size) (hj2 : j < b.data.size) : (DM.flip b).data[j] = if j = b.size - 1 then 255 - b.data[j] else b.data[j] := by
  simp only [flip_data]
  rw [Array.getElem_setIfInBounds]
  by_cases h : b.size - 1 = j
  · subst h
    rw [if_pos rfl, if_pos rfl, getElem!_pos b.data (b.size - 1) hj2]
  · rw [if_neg h, if_neg (fun e => h e.symm)]
theorem and_one_i64 (x : Int) : bits .and .i64 x 1 = x % 2 := by
  unfold bits
  simp only
  have h : (BitVec.ofInt 64 x).toNat = (x % 18446744073709551616).toNat := by simp
  have h1 : (BitVec.ofInt 64 (1 : Int)).toNat = 1 := by decide
  have hb : IntKind.i64.bits = 64 := rfl
  rw [hb]
  simp only [BitVec.toNat_and, h, h1, Nat.and_one_is_mod]
  rw [IntKind.wrap_i64]
  omega
theorem xor_255 (x : UInt8) : bits .xor .u8 (x.toNat : Int) 255 = ((255 - x).toNat : Int) := by
  have h : ∀ n : Fin 256, bits .xor .u8 ((UInt8.ofNat n.val).toNat : Int) 255 = ((255 - UInt8.ofNat n.val).toNat : Int) := by decide +kernel
  have h2 := h ⟨x.toNat, x.toNat_lt⟩
  simpa using h2

/-- the walk's state ahead of a file -/
structure CS (w0 w : World) (b mb n B : Nat) (mo : Option Nat) (d : DM.D) (ps : List Int) (a : Option Addr) (i : Nat) : Prop where
  disk : DiskAt w b mo n { d with fl := DM.half d.fl ps i }
  box : ∃ v, Blk w B 35 #[v] ∧ PicksAt (B :: b :: mo.toList) w v (DM.picksL (d.fl.take i) ps)
  names : ∀ j (h : j < d.fl.length), ∃ g, a = some ⟨g, 0, none⟩ ∧ g ∉ B :: b :: mo.toList ∧ w.cell? ⟨g, j, none⟩ = some (.string (str d.fl[j].1))
  T : Touch (B :: b :: mo.toList) w0 w

set_option maxRecDepth 10000 in
set_option maxHeartbeats 800000 in
theorem crash_any (w : World) (b n : Nat) (mo : Option Nat) (d : DM.D) (h : DiskAt w b mo n d) (hn : n < 1099511627776) (a0 : Option Addr) (l0 c0 : Nat) (ps : List Int) (hps : PicksAt (w.heap.size :: b :: mo.toList) w (.slice a0 l0 c0) ps) :
    Calls Tryz.prog 21 #[.pointer (some ⟨b, 0, none⟩), .slice a0 l0 c0] w fun e w' => e = .returned (.tuple #[]) ∧ DiskAt w' b mo n (DM.crash d ps) ∧ DTouch b mo mo w w' := by
  have hna := names_any (w.alloc (.cells #[.slice a0 l0 c0] 35)) b n mo d (h.touch ((Touch.refl [] w).alloc _) (by simp) (by simp)) hn
  have HNA := Lib.hid hna
  have hB := Blk.new w 35 #[.slice a0 l0 c0]
  have HB := Lib.hid hB
  have HP := Lib.hid hps
  have HN := Lib.hid hn
  clear hna hB hps hn
  go_enter Tryz.func21, Tryz.ntmps21
  go_wp2_with fail
  refine HNA.out.mono ?_
  rintro e w1 ⟨a, cap, rfl, hsl, T1⟩
  have hnl : (DM.names d.fl).length = d.fl.length := by simp [DM.names]
  rw [hnl]
  have hlen : (d.fl.length : Int) ≤ 1099511627776 := by have := h.fit.len; have := HN.out; omega
  have T01 : Touch [] w w1 := ((Touch.refl [] w).alloc _).trans T1 (by simp)
  have h1 := h.touch T01 (by simp) (by simp)
  have hB1 := T1.blk HB.out (by simp)
  have hCS : CS w w1 b 0 n w.heap.size mo d ps a 0 := by
    refine ⟨by rw [DM.half_zero]; exact h1, ⟨_, hB1, HP.out.touch (T01.mono (by simp))⟩, fun j hj => ?_, T01.mono (by simp)⟩
    rcases hsl with h0 | ⟨g, e, hc⟩
    · have : (DM.names d.fl).length = 0 := by rw [h0]; rfl
      omega
    · refine ⟨g, e, fun hm => ?_, by have := hc j (by omega); simpa [DM.names] using this⟩
      have hc0 := hc 0 (by omega)
      rcases List.mem_cons.1 hm with rfl | hm
      · have := hB1.cell 0
        rw [hc0] at this; simp at this
      · rcases List.mem_cons.1 hm with rfl | hm
        · have := h1.c0
          rw [hc0] at this; simp at this
        · simp at hm
          rcases h1.map with ⟨h9, _⟩ | ⟨mb, Dm, h9, ⟨es, clock, hh, _⟩, _⟩
          · rw [h9] at hm; cases hm
          · rw [h9] at hm; cases hm
            unfold World.cell? at hc0
            rw [hh] at hc0
            simp at hc0
  have HC := Lib.hid hCS
  have HNL := Lib.hid hnl
  clear hCS hsl hnl
  go_wp2_with fail
  go_loopw [17] (fun v17 wr => ∃ i : Nat, i ≤ d.fl.length ∧ v17 = .int .i64 i ∧ CS w wr b 0 n w.heap.size mo d ps a i) (fun v17 _ => d.fl.length - (intOf v17).toNat)
  case atStart => exact ⟨0, Nat.zero_le _, rfl, HC.out⟩
  case round =>
    obtain ⟨i, hi, rfl, hcs⟩ := hrel
    by_cases hlt : i < d.fl.length
    · obtain ⟨g, rfl, hg, hc⟩ := hcs.names i hlt
      have hfit := h.fit
      have hel := List.getElem_mem hlt
      have hkl := (hfit.each _ hel).2
      have hfl2 := (hfit.each _ hel).1
      have hlk := hcs.disk.map.look1 (str d.fl[i].1) (by rw [str_size]; unfold maxLen; omega)
      have hgf : DM.getF (DM.half d.fl ps i) (nm (str d.fl[i].1)) = d.fl[i].2 := by rw [nm_str]; exact DM.half_look hfit.sorted ps i hlt
      simp only [hgf] at hlk
      have hfv : fileV d.fl[i].2 = .agg #[.string d.fl[i].2.1, .int .i64 (d.fl[i].2.2 : Int)] := rfl
      rw [hfv] at hlk
      have hus := DM.sz_le d.fl d.fl[i].1
      rw [look_at hfit.sorted i hlt] at hus
      have hsz : (d.fl[i].2.1.size : Int) ≤ 1099511627776 := by have := hfit.small; simp only [DM.sz] at hus; omega
      obtain ⟨v1, hBw, hPw⟩ := hcs.box
      have c1 := hcs.disk.c1
      obtain ⟨ks, hks⟩ : ∃ ks, ks = str d.fl[i].1 := ⟨_, rfl⟩
      obtain ⟨f, hf⟩ : ∃ f, f = d.fl[i].2 := ⟨_, rfl⟩
      rw [← hks] at hc hlk
      rw [← hf] at hlk hsz hfl2
      obtain ⟨fd, fl⟩ := f
      simp only at hlk hsz hfl2
      obtain ⟨pi, hpi⟩ : ∃ pi, pi = DM.picksL (d.fl.take i) ps := ⟨_, rfl⟩
      rw [← hpi] at hPw
      have HK := Lib.hid hks
      have HF := Lib.hid hf
      have HPI := Lib.hid hpi
      have HCS := Lib.hid hcs
      have hT2 : Touch [] wr (wr.alloc (.cells #[.string fd, .int .i64 (fl : Int)] 66)) := (Touch.refl _ _).alloc _
      have hnx := next_any (w.heap.size :: b :: mo.toList) (wr.alloc (.cells #[.string fd, .int .i64 (fl : Int)] 66)) w.heap.size v1 pi (hBw.alloc _) (by simp) (hPw.touch (hT2.mono (by simp)))
      have hpw := wf64_le hPw.wf
      obtain ⟨p, hp⟩ : ∃ p, p = (DM.pick pi).1 := ⟨_, rfl⟩
      rw [← hp] at hnx hpw
      have hpw := hpw.2
      have HPP := Lib.hid hp
      have HNX := Lib.hid hnx
      have hbwr := hBw.lt
      have hF := Blk.new wr 66 #[.string fd, .int .i64 (fl : Int)]
      have HFB := Lib.hid hF
      clear hp hks hf hpi hcs hnx hgf hfv hus hel hkl hPw hBw hF
      go_wp2_with fail
      refine HNX.out.mono ?_
      rintro e w3 ⟨rfl, v3, hB3, hP3, T3⟩
      go_upto_if 30 with (fail)
      go_cut [8] from 18 to 77 (fun s8 wx => s8 = .int .i64 (DM.fold p) ∧ wx = w3)
      case first =>
        have he : ∀ x, x = (if p < 0 then -(p + 1) else p) → Value.int .i64 x = Value.int .i64 (DM.fold p) := fun x hx => by rw [hx]; rfl
        have HE := Lib.hid he
        clear he
        by_cases hp0 : p < 0
        · go_wp2
          go_meet
          exact ⟨HE.out _ (by rw [if_pos hp0]), rfl⟩
        · go_wp2
          go_meet
          exact ⟨HE.out _ (by rw [if_neg (by omega)]), rfl⟩
      case rest =>
        obtain ⟨rfl, hw⟩ := hcut
        obtain rfl := hw.symm
        have hq0 : 0 ≤ DM.fold p ∧ DM.fold p ≤ 9223372036854775807 := by unfold DM.fold; split <;> omega
        have hFB := T3.blk HFB.out (by simp; omega)
        have f0 := hFB.cell 0
        have f1 := hFB.cell 1
        have hmd : (DM.fold p).tmod ((fd.size : Int) - (fl : Int) + 1) = ((DM.more (fd, fl) p : Nat) : Int) := by
          unfold DM.more
          have e : (((fd.size - fl + 1 : Nat)) : Int) = (fd.size : Int) - (fl : Int) + 1 := by omega
          rw [e, Int.toNat_of_nonneg (Int.emod_nonneg _ (by omega)), Int.tmod_eq_emod_of_nonneg hq0.1]
        have hml := DM.more_le (fd, fl) p
        obtain ⟨q, hq⟩ : ∃ q, q = DM.fold p := ⟨_, rfl⟩
        rw [← hq] at hmd hq0 ⊢
        obtain ⟨m, hm⟩ : ∃ m, m = DM.more (fd, fl) p := ⟨_, rfl⟩
        rw [← hm] at hmd hml
        have HM := Lib.hid hm
        have hflI : (fl : Int) ≤ (fd.size : Int) := by omega
        have hmI : (fl : Int) + (m : Int) ≤ (fd.size : Int) := by simp only at hml; omega
        have hcv := fun w s => run_bytes_of_string (P := Tryz.prog) w 9 85 5 s Tryz.underlying9 Tryz.underlying85 Tryz.underlying5
        clear hq hm hml hFB
        go_upto_region 12 with (fail)
        have hmin : min (fl + m) fd.size = (fd.extract 0 (fl + m)).size := by rw [ByteArray.size_extract]; omega
        rw [hmin]
        obtain ⟨bs, hbs⟩ : ∃ bs, bs = fd.extract 0 (fl + m) := ⟨_, rfl⟩
        have hbz : bs.size = fl + m := by rw [hbs, ByteArray.size_extract]; omega
        rw [← hbs]
        obtain ⟨cw, hcw⟩ : ∃ cw, cw = grownCap w3 bs.size 0 5 := ⟨_, rfl⟩
        rw [← hcw]
        obtain ⟨w4, hw4⟩ : ∃ w4, w4 = (w3.alloc (Obj.cells (bytesRow bs cw) 5 ((bytesRow bs cw).size, (bytesRow bs cw).size + 1))).drew := ⟨_, rfl⟩
        rw [← hw4]
        have T4 : Touch [] w3 w4 := by rw [hw4]; exact ((Touch.refl [] w3).alloc _).drew_
        have hcb : ∀ j (hj : j < bs.data.size), w4.cell? ⟨w3.heap.size, j, none⟩ = some (.int .u8 (bs.data[j].toNat : Int)) := fun j hj => by
          rw [hw4]
          exact (World.cell?_alloc_mark w3 _ _ _ j).trans (bytesRow_at bs cw j hj)
        have hfz : ∀ j, j < bs.data.size → w4.frozen? ⟨w3.heap.size, j, none⟩ = false := fun j hj => by
          rw [hw4]
          refine (World.frozen?_alloc_mark w3 _ _ _ _ j).trans ?_
          have : j < (bytesRow bs cw).size := by unfold bytesRow; rw [Array.size_append, Array.size_map]; omega
          simp; omega
        have hbc : bs.size ≤ cw := by rw [hcw]; exact grownCap_ge _ _ _ _
        obtain ⟨G, hG⟩ : ∃ G, G = w3.heap.size := ⟨_, rfl⟩
        rw [← hG] at hcb hfz ⊢
        have HG := Lib.hid hG
        have HBS := Lib.hid hbs
        have HCB := Lib.hid hcb
        have HFZ := Lib.hid hfz
        have hP4 : PicksAt (G :: w.heap.size :: b :: mo.toList) w4 v3 (DM.pick pi).2 := (hP3.grow (by rw [HG.out]; exact Nat.le_refl _)).touch (T4.mono (by simp))
        have hnx := next_any (G :: w.heap.size :: b :: mo.toList) w4 w.heap.size v3 (DM.pick pi).2 (T4.blk hB3 (by simp)) (by simp) hP4
        have HNX2 := Lib.hid hnx
        have HX := Lib.hid (And.intro (T4.blk hB3 (by simp)) hP4)
        clear hP4
        have HBZ := Lib.hid hbz
        clear hbz hmin hbs hcw hw4 hG hcb hfz hnx hB3 hP3 f0 f1 hcv hmd
        go_cut [58] from 18 to 77 (fun s58 wx => ∃ fb : Bool, s58 = .bool fb ∧ (fb = true ↔ (0 < m ∧ (DM.pick (DM.pick pi).2).1 % 2 = 1)) ∧ (∃ v', Blk wx w.heap.size 35 #[v'] ∧ PicksAt (G :: w.heap.size :: b :: mo.toList) wx v' (if 0 < m then (DM.pick (DM.pick pi).2).2 else (DM.pick pi).2)) ∧ Touch [w.heap.size] w4 wx)
        case first =>
          by_cases hm0 : m = 0
          · subst hm0
            go_wp2_with fail
            go_meet
            exact ⟨false, rfl, by simp, ⟨v3, HX.out.1, by rw [if_neg (by omega)]; exact HX.out.2⟩, Touch.refl _ _⟩
          · have hmp : (0 : Int) < (m : Int) := by omega
            go_wp2_with fail
            refine HNX2.out.mono ?_
            rintro e w5 ⟨rfl, v5, hB5, hP5, T5⟩
            go_wp2_with fail
            go_meet
            refine ⟨_, rfl, ?_, ⟨v5, hB5, by rw [if_pos (by omega)]; exact hP5⟩, T5⟩
            rw [and_one_i64]
            constructor
            · intro h9; exact ⟨by omega, by simpa using h9⟩
            · intro h9; simpa using h9.2
        case rest =>
          obtain ⟨fb, rfl, hfb, hbx, T6⟩ := hcut
          obtain ⟨w6, rfl⟩ : ∃ x, x = wc := ⟨_, rfl⟩
          have htear : DM.tear (fd, fl) pi = ((if fb = true then DM.flip bs else bs, bs.size), if 0 < m then (DM.pick (DM.pick pi).2).2 else (DM.pick pi).2) := by
            rw [DM.tear_eq]
            simp only [← HPP.out, ← HM.out, ← HBS.out]
            by_cases h0 : 0 < m
            · rw [if_pos h0, if_pos h0]
              by_cases h1 : (DM.pick (DM.pick pi).2).1 % 2 = 1
              · rw [if_pos h1, if_pos (hfb.2 ⟨h0, h1⟩)]
              · rw [if_neg h1, if_neg (fun h => h1 (hfb.1 h).2)]
            · rw [if_neg h0, if_neg h0, if_neg (fun h => h0 (hfb.1 h).1)]
          have HTE := Lib.hid htear
          have hpos : fb = true → 0 < bs.size := fun h => by have := (hfb.1 h).1; have := HBZ.out; omega
          have HBX := Lib.hid hbx
          clear htear hbx hfb
          have hGB : G ≠ w.heap.size := by have := HG.out; have := T3.size; have := hT2.size; simp at *; omega
          go_upto_if 58 with (fail)
          go_cut [] from 18 to 77 (fun wx => (∃ nb : ByteArray, nb = (if fb = true then DM.flip bs else bs) ∧ nb.data.size = bs.data.size ∧ ∀ j (hj : j < nb.data.size), wx.cell? ⟨G, j, none⟩ = some (.int .u8 (nb.data[j].toNat : Int))) ∧ (∃ v', Blk wx w.heap.size 35 #[v'] ∧ PicksAt (w.heap.size :: b :: mo.toList) wx v' (DM.tear (fd, fl) pi).2) ∧ Touch [w.heap.size] w3 wx)
          case first =>
            cases fb with
            | false =>
              go_wp2_with fail
              go_meet
              exact ⟨⟨bs, by simp, rfl, fun j hj => T6.cell (HCB.out j hj) (by simp; exact hGB)⟩, by rw [HTE.out]; obtain ⟨v7, hB7, hP7⟩ := HBX.out; exact ⟨v7, hB7, hP7.less (fun k hk => List.mem_cons_of_mem _ hk)⟩, (T4.mono (by simp)).trans T6 (by simp)⟩
            | true =>
              have hps2 : (0 : Int) < (bs.size : Int) := by have := hpos rfl; omega
              have hps3 : (bs.size : Int) ≤ 1099511627776 := by have := HBZ.out; omega
              have hls : bs.size - 1 < bs.data.size := by have := hpos rfl; show bs.size - 1 < bs.size; omega
              have hlc := HCB.out (bs.size - 1) hls
              have hlf := HFZ.out (bs.size - 1) hls
              have hlc := T6.cell hlc (by simp; exact hGB)
              have hlf : w6.frozen? ⟨G, bs.size - 1, none⟩ = false := (T6.frozen (by exact (cell_lt' (HCB.out (bs.size - 1) hls))) (by simp; exact hGB)).trans hlf
              go_wp2_with fail
              go_meet
              have hfs : (DM.flip bs).data.size = bs.data.size := DM.flip_size bs
              have hT7 : Touch [w.heap.size] w3 (w6.setCell ⟨G, bs.size - 1, none⟩ (.int .u8 (bits BinOp.xor IntKind.u8 (bs.data[bs.size - 1].toNat : Int) 255))) :=
                (((T4.mono (by simp)).trans T6 (by simp)).setCell _ _ (.inr (by rw [HG.out]; exact Nat.le_refl _)))
              refine ⟨⟨DM.flip bs, by simp, hfs, fun j hj => ?_⟩, ?_, hT7⟩
              · have hj2 : j < bs.data.size := by omega
                rw [flip_at bs j hj hj2]
                by_cases hjl : j = bs.size - 1
                · subst hjl
                  rw [if_pos rfl, ← xor_255]
                  exact World.cell?_setCell_same' w6 _ _ (by rw [hlc]; rfl)
                · rw [if_neg hjl]
                  exact (World.cell?_setCell_other _ _ _ _ (by intro e; exact hjl (by injection e with _ e2 _; exact e2.symm))).trans (T6.cell (HCB.out j hj2) (by simp; exact hGB))
              · rw [HTE.out]
                obtain ⟨v7, hB7, hP7⟩ := HBX.out
                exact ⟨v7, hB7.far (by simpa using fun e => hGB e.symm) _, (hP7.touch ((Touch.refl _ _).setCell _ _ (.inl (by simp)))).less (fun k hk => List.mem_cons_of_mem _ hk)⟩
          case rest =>
            obtain ⟨⟨nb, hnb, hnz, hnc⟩, hbx7, T37⟩ := hcut
            obtain ⟨w7, rfl⟩ : ∃ x, x = wc := ⟨_, rfl⟩
            have TB : Touch [w.heap.size] wr w7 := ((hT2.mono (by simp)).trans T3 (by simp)).trans T37 (by simp)
            have hcs := HCS.out
            have hmlt : ∀ q, mo = some q → q < w.heap.size := fun q hq => h.lt_map hq
            have hbl := h.blk.lt
            have h7 := hcs.disk.touch TB (by simp; omega) (fun q hq => by have := hmlt q hq; simp; omega)
            obtain ⟨mb, Dm, hmo, hown, hv⟩ : ∃ mb Dm, mo = some mb ∧ w7.ownsMap Tryz.prog 9 RF mb n Dm ∧ ViewF Dm (DM.half d.fl ps i) := by
              rcases h7.map with ⟨_, h9⟩ | h9
              · have h10 : (DM.half d.fl ps i).length = 0 := by
                  have h11 : DM.half d.fl ps i = [] := h9
                  rw [h11]; rfl
                rw [DM.length_half] at h10
                omega
              · exact h9
            subst hmo
            have c7 := h7.c1
            have hback : ∀ W, (∀ j (hj : j < nb.data.size), W.cell? ⟨G, j, none⟩ = some (.int .u8 (nb.data[j].toNat : Int))) → (convert 85 9 (.slice (some ⟨G, 0, none⟩) bs.size cw)).run Tryz.prog W = .ok (.string nb) W := fun W hW => by
              have hlen : nb.data.toList.length = bs.size := by rw [Array.length_toList, hnz]; rfl
              have := run_convert_bytes_back (P := Tryz.prog) W 85 9 5 ⟨G, 0, none⟩ cw nb.data.toList Tryz.underlying85 Tryz.underlying5 Tryz.underlying9 (fun j hj => by
                have hj' : j < nb.data.size := by rw [Array.length_toList] at hj; exact hj
                have := hW j hj'
                have e : (⟨G, 0, none⟩ : Addr).add j = ⟨G, j, none⟩ := by rw [add_none, Nat.zero_add]
                rw [e]
                simp only [Array.getElem_toList]
                exact this)
              rw [hlen] at this
              simpa using this
            have hb1 := hback w7 hnc
            have hb2 := hback w7.drew hnc
            have hkey : keyOf Tryz.prog 9 (.string ks) = some (.string (nm ks)) := keyOf_string_mk Tryz.underlying9 (by rw [HK.out, str_size]; have := (h.fit.each _ (List.getElem_mem hlt)).2; unfold maxLen; omega)
            have HKEY := Lib.hid hkey
            have HNB := Lib.hid hnb
            have HBX7 := Lib.hid hbx7
            have hRF : RF (.agg #[.string nb, .int .i64 (bs.size : Int)]) = some (fileD (nb, bs.size), []) := RF_mk (nb, bs.size)
            have HR := Lib.hid hRF
            have H7 := Lib.hid h7
            have HV := Lib.hid hv
            clear hback hkey hnb hbx7 hRF h7 hv hnc hcs
            go_wp2_with fail
            go_still_tail 10, (by kernel_rfl)
            change wpList _ _ _ _ _ w7.drew
            obtain ⟨w8, hw8⟩ : ∃ w8, w7.drew = w8 := ⟨_, rfl⟩
            rw [hw8]
            have hown2 : w8.ownsMap Tryz.prog 9 RF mb n Dm := hw8 ▸ hown
            have H8 := Lib.hid hw8
            clear hw8 c7 hb1 hb2
            go_wp2_with (at_mapUpdate; refine wpList_mapUpdate_in _ rfl _ _ _ 53 rfl 9 66 kstr Tryz.underlying53 _ mb n Dm rfl hown2 (by have := HN.out; unfold maxLen; omega) _ _ _ rfl rfl HKEY.out _ [] HR.out ?_; intro w9 hown9 hturn9)
            have hg9 := hturn9.grown
            rw [← H8.out] at hg9
            have T79 : Touch [mb] w7 w9 := ((Touch.refl [mb] w7).drew_).trans (Touch.of_grown hg9) (by simp)
            have hcs := HCS.out
            have h7 := H7.out
            have hmb := hmlt mb rfl
            have hks : nm ks = d.fl[i].1 := by rw [HK.out, nm_str]
            have hte : (DM.tear d.fl[i].2 pi) = ((if fb = true then DM.flip bs else bs, bs.size), if 0 < m then (DM.pick (DM.pick pi).2).2 else (DM.pick pi).2) := by rw [← HF.out]; exact HTE.out
            have htn : (nb, bs.size) = (DM.tear d.fl[i].2 (DM.picksL (d.fl.take i) ps)).1 := by rw [← HPI.out, hte, ← HNB.out]
            have hhas : Maps.has Dm (.string (nm ks)) = true := by rw [HV.out.has, hks, DM.half_has h.fit.sorted ps i hlt]; rfl
            have hsize : Maps.size (Dm.put (.string (nm ks)) (fileD (nb, bs.size))) ≤ n := by
              rw [Maps.size_put (hown.tidy kstr), if_pos hhas]
              exact hown.size_le
            have hhs : DM.put (DM.half d.fl ps i) (nm ks) (nb, bs.size) = DM.half d.fl ps (i + 1) := by rw [hks, htn]; exact DM.half_succ h.fit.sorted ps i hlt
            have hvp := HV.out.put hown.isMap (DM.sorted_half h.fit.sorted ps i) (nm ks) (nb, bs.size)
            rw [hhs] at hvp
            have T9 : Touch (w.heap.size :: b :: [mb]) wr w9 := (TB.mono (by simp)).trans T79 (by simp)
            refine ⟨⟨i + 1, by omega, by go_num, ?_⟩, by simp [intOf]; omega⟩
            refine ⟨⟨T79.blk h7.blk (by simp; have := h7.ne_map rfl; omega), h.room, h.left, h.done, .inr ⟨mb, _, rfl, ownsMap_shrink hown9 hsize, hvp⟩, h.fit.half ps (i + 1)⟩, ?_, fun j hj => ?_, hcs.T.trans T9 (by simp)⟩
            · obtain ⟨v8, hB8, hP8⟩ := HBX7.out
              refine ⟨v8, T79.blk hB8 (by simp; omega), ?_⟩
              rw [DM.picks_succ d.fl ps i hlt, ← HPI.out, ← HF.out]
              exact hP8.touch (T79.mono (by simp))
            · obtain ⟨g2, hg2, hgn, hgc⟩ := hcs.names j hj
              exact ⟨g2, hg2, hgn, T9.cell hgc (by simpa using hgn)⟩
    · have hie : i = d.fl.length := by omega
      subst hie
      have hd9 := hcs.disk
      rw [DM.half_all] at hd9
      have c2 := hd9.c2
      have c3 := hd9.c3
      have f2 := hd9.blk.frozen 2
      have f3 := hd9.blk.frozen 3
      have HCS := Lib.hid hcs
      have HD9 := Lib.hid hd9
      clear hcs hd9
      go_wp2_with fail
      go_end0
      have hd9 := HD9.out
      have ht : Touch [b] wr ((wr.setCell ⟨b, 2, none⟩ (.bool false)).setCell ⟨b, 3, none⟩ (.int .i64 0)) := ((Touch.refl _ _).setCell _ _ (.inl (by simp))).setCell _ _ (.inl (by simp))
      refine ⟨rfl, hd9.own (d' := DM.crash d ps) ht ((hd9.blk.set_ 2 _).set_ 3 _) h.room ⟨by simp [DM.crash], by simp [DM.crash]⟩ h.done rfl (Nat.le_refl _), ?_, fun m hm => .inl hm⟩
      exact (HCS.out.T.mono (fun k hk => by rcases List.mem_cons.1 hk with rfl | hk; exact .inr (Nat.le_refl _); exact .inl hk)).trans ht (fun k hk => .inl (by simp at hk; subst hk; simp))
end Go.Proofs.YtmglkhnojimnlaaGreat

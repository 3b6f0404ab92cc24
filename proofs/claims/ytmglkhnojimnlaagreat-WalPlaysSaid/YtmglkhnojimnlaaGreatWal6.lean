/- Package wal: clear, have, Append, Sync. -/
import Derived.Test.YtmglkhnojimnlaaGreatWal5
import Derived.Deep.RegionHeld3
namespace Go.Proofs.YtmglkhnojimnlaaGreat
open Go.RowKit Go.Maps

theorem DEnds.pre {S : List Nat} {b n : Nat} {w w1 w' : World} {r : Int × DM.D} {e : Ending} (h : DEnds S b n w1 r e w') (ht : Touch [] w w1) : DEnds S b n w r e w' := by
  obtain ⟨h1, S', h2, h3, h4⟩ := h
  refine ⟨h1, S', h2, (ht.mono (S' := S) (by simp)).trans h3 (fun k hk => .inl hk), fun k hk => ?_⟩
  rcases h4 k hk with h5 | h5
  · exact .inl h5
  · exact .inr (Nat.le_trans ht.size h5)
theorem DEnds.same {S : List Nat} {b n : Nat} {w w' : World} {d : DM.D} (h : DiskF w S b n d) (k : Int) (ht : Touch [] w w') : DEnds S b n w (k, d) (.returned (.int .i64 k)) w' :=
  ⟨rfl, S, (h.touch ht (by simp)).mono (by omega), ht.mono (by simp), Fresh.refl _ _⟩
abbrev newS : ByteArray := ⟨#[119, 97, 108, 46, 110, 101, 119]⟩
abbrev walS : ByteArray := ⟨#[119, 97, 108]⟩
theorem nm_new : nm newS = LM.newN := rfl
theorem nm_wal : nm walS = LM.walN := rfl
theorem clear_any {w : World} {S : List Nat} {b n : Nat} {d : DM.D} (h : DiskF w S b n d) (hn : n < 1099511627775) :
    Calls Tryz.prog 39 #[.pointer (some ⟨b, 0, none⟩)] w (DEnds S b n w (LM.clear d)) := by
  have hna := dnames h (by omega)
  have hlen : d.fl.length ≤ 1099511627776 := by
    obtain ⟨mo, hd, _⟩ := h
    have := hd.fit.len; omega
  have hco := fun W a cap (hs : SliceS W a (DM.names d.fl)) => contains_any W a cap d.fl newS hs hlen
  rw [nm_new] at hco
  have hon : ∀ W, Touch [] w W → _ := fun W T => don (h.touch T (by simp))
  have hre : ∀ W, Touch [] w W → _ := fun W T => dremove (h.touch T (by simp)) hn newS (by decide)
  rw [nm_new] at hre
  have hE : ∀ W, Touch [] w W → DEnds S b n w (0, d) (.returned (.int .i64 0)) W := fun W T => DEnds.same h 0 T
  obtain ⟨is, his⟩ : ∃ is, is = (DM.look d.fl LM.newN).isSome := ⟨_, rfl⟩
  have hcl : LM.clear d = if is = true ∧ d.off = false then DM.remove d LM.newN else (0, d) := by rw [his]; rfl
  rw [hcl]
  rw [← his] at hco
  obtain ⟨off, hoff⟩ : ∃ off, off = d.off := ⟨_, rfl⟩
  rw [← hoff] at hon ⊢
  have HNA := Lib.hid hna
  have HCO := Lib.hid hco
  have HON := Lib.hid hon
  have HRE := Lib.hid hre
  have HE := Lib.hid hE
  obtain ⟨q, hq⟩ : ∃ q, q = (DM.names d.fl).length := ⟨_, rfl⟩
  clear hna hco hon hre hE hcl his hoff hlen h hn
  cases is
  · rw [if_neg (by simp)]
    go_enter Tryz.func39, Tryz.ntmps39
    go_wp2_with fail
    refine HNA.out.mono ?_
    rintro e w1 ⟨a, cap, rfl, hs, T1⟩
    have hc := HCO.out w1 a cap hs
    have HC := Lib.hid hc
    clear hc hs
    go_wp2_with fail
    refine HC.out.mono ?_
    rintro e w' ⟨rfl, rfl⟩
    go_wp2_with fail
    go_ret
    exact HE.out _ T1
  · cases off
    · rw [if_pos ⟨rfl, rfl⟩]
      go_enter Tryz.func39, Tryz.ntmps39
      go_wp2_with fail
      refine HNA.out.mono ?_
      rintro e w1 ⟨a, cap, rfl, hs, T1⟩
      have hc := HCO.out w1 a cap hs
      have HC := Lib.hid hc
      clear hc hs
      go_wp2_with fail
      refine HC.out.mono ?_
      rintro e w' ⟨rfl, rfl⟩
      go_wp2_with fail
      refine (HON.out _ T1).mono ?_
      rintro e w' ⟨rfl, rfl⟩
      go_wp2_with fail
      refine (HRE.out _ T1).mono ?_
      intro e w' hd
      have HD := Lib.hid (hd.pre T1)
      obtain ⟨rfl, _⟩ := hd
      go_wp2_with fail
      go_ret
      exact HD.out
    · rw [if_neg (by simp)]
      go_enter Tryz.func39, Tryz.ntmps39
      go_wp2_with fail
      refine HNA.out.mono ?_
      rintro e w1 ⟨a, cap, rfl, hs, T1⟩
      have hc := HCO.out w1 a cap hs
      have HC := Lib.hid hc
      clear hc hs
      go_wp2_with fail
      refine HC.out.mono ?_
      rintro e w' ⟨rfl, rfl⟩
      go_wp2_with fail
      refine (HON.out _ T1).mono ?_
      rintro e w' ⟨rfl, rfl⟩
      go_wp2_with fail
      go_ret
      exact HE.out _ T1

/-- what a call leaves of a log -/
def WGood (S : List Nat) (g b n : Nat) (w : World) (x : LM.L) (w' : World) : Prop := ∃ S' D' sv', WalAt w' S' D' sv' g b n x ∧ Touch S w w' ∧ Fresh w S S'
def WEnds (S : List Nat) (g b n : Nat) (w : World) (r : Int × LM.L) (e : Ending) (w' : World) : Prop := e = .returned (.int .i64 r.1) ∧ WGood S g b n w r.2 w'
theorem WGood.pre {S : List Nat} {g b n : Nat} {w w1 w' : World} {x : LM.L} (h : WGood S g b n w1 x w') (ht : Touch [] w w1) : WGood S g b n w x w' := by
  obtain ⟨S', D', sv', h1, h2, h3⟩ := h
  refine ⟨S', D', sv', h1, (ht.mono (S' := S) (by simp)).trans h2 (fun k hk => .inl hk), fun k hk => ?_⟩
  rcases h3 k hk with h5 | h5
  · exact .inl h5
  · exact .inr (Nat.le_trans ht.size h5)
theorem WalAt.mono {w : World} {S D : List Nat} {sv : Value} {g b n m : Nat} {x : LM.L} (h : WalAt w S D sv g b n x) (hm : n ≤ m) : WalAt w S D sv g b m x := ⟨h.foot, h.disk.mono hm, h.blk, h.row, h.firm, h.small⟩
theorem WGood.same {w w' : World} {S D : List Nat} {sv : Value} {g b n : Nat} {x : LM.L} (h : WalAt w S D sv g b n x) (ht : Touch [] w w') : WGood S g b (n + 2) w x w' :=
  ⟨S, D, sv, (h.quiet ht).mono (by omega), ht.mono (by simp), Fresh.refl _ _⟩
theorem WGood.trans {S S1 : List Nat} {g b n : Nat} {w w1 w' : World} {x : LM.L} (T : Touch S w w1) (hf : Fresh w S S1) (h : WGood S1 g b n w1 x w') : WGood S g b n w x w' := by
  obtain ⟨S', D', sv', h1, h2, h3⟩ := h
  exact ⟨S', D', sv', h1, T.trans h2 hf, hf.trans h3 T.size⟩

set_option maxRecDepth 10000 in
set_option maxHeartbeats 1600000 in
theorem have_any {w : World} {S D : List Nat} {sv : Value} {g b n : Nat} {x : LM.L} (h : WalAt w S D sv g b n x) (a : Option Addr) (cap : Nat) (ss : List ByteArray) (hT : TextsB w a ss)
    (hsm : (WM.all (x.l ++ ss.map bs)).length ≤ 1099511627776) :
    Calls Tryz.prog 48 #[.pointer (some ⟨g, 0, none⟩), .slice a ss.length cap] w fun e w' => e = .returned (.tuple #[]) ∧ WGood S g b n w { x with l := x.l ++ ss.map bs } w' := by
  have hll := lens_le (x.l ++ ss.map bs)
  rw [List.length_append, List.length_map] at hll
  have hlen : ss.length ≤ 137438953472 := by omega
  have hlb : (ss.length : Int) ≤ 137438953472 := by omega
  have hfo : Fresh w S (g :: (D ++ sv.ownBlock.toList)) := by rw [h.foot]; exact Fresh.refl _ _
  have H := Lib.hid h
  have HT := Lib.hid hT
  have HSM := Lib.hid hsm
  have HFO := Lib.hid hfo
  have HLL := Lib.hid hll
  obtain ⟨i0, hi, hz0, hz1, hz2⟩ := info_parts infoInt
  have HI := Lib.hid (And.intro hi (And.intro hz0 (And.intro hz1 hz2)))
  clear h hT hsm hfo hlen hi hz0 hz1 hz2 hll
  go_enter Tryz.func48, Tryz.ntmps48
  go_wp2_with fail
  go_loopw [8] (fun u wr => ∃ (i : Nat) (sv' : Value), i ≤ ss.length ∧ u = .int .i64 i ∧ WalAt wr (g :: (D ++ sv'.ownBlock.toList)) D sv' g b n { x with l := x.l ++ (ss.map bs).take i } ∧ Touch S w wr ∧ Fresh w S (g :: (D ++ sv'.ownBlock.toList)))
    (fun u _ => ss.length - (intOf u).toNat)
  case atStart =>
    refine ⟨0, sv, Nat.zero_le _, rfl, ?_, Touch.refl _ _, HFO.out⟩
    have h := H.out
    have e : ({ x with l := x.l ++ (ss.map bs).take 0 } : LM.L) = x := by simp
    rw [e]
    exact ⟨rfl, h.disk, h.blk, h.row, h.firm, h.small⟩
  case round =>
    obtain ⟨i, sv', hi, rfl, hW, hT, hF⟩ := hrel
    have HW := Lib.hid hW
    have HTT := Lib.hid hT
    have HF := Lib.hid hF
    by_cases hlt : i < ss.length
    · have hk : KeepBut walTs w wr := KeepBut.of H.out.foots hT
      have htx := (HT.out.keep hk (by decide)).texts
      obtain ⟨blk, off, rfl, hc⟩ := htx i hlt
      have c1 := hW.c1
      have hle : (bs ss[i]).length ≤ 1099511627776 := by
        have h1 := WM.all_take_mono (x.l ++ ss.map bs) (show x.l.length + i + 1 ≤ (x.l ++ ss.map bs).length by simp; omega)
        rw [List.take_length] at h1
        have h2 := WM.all_take_succ (x.l ++ ss.map bs) (x.l.length + i) (by simp; omega)
        have h3 : (x.l ++ ss.map bs)[x.l.length + i]'(by simp; omega) = bs ss[i] := by simp
        rw [h3] at h2
        have := HSM.out
        omega
      rw [bs_length] at hle
      have hleI : (ss[i].size : Int) ≤ 1099511627776 := by omega
      have hln : ({ x with l := x.l ++ (ss.map bs).take i } : LM.L).l.length = x.l.length + i := by simp; omega
      have hrow : wr.ownsRow 0 3 1 sv' (x.l.length + i) ((x.l ++ (ss.map bs).take i).map sizeV) := by have := hW.row; unfold SizeRow at this; rwa [hln] at this
      have hG := hW.blk
      have hgs := hW.g_row
      have hlast : ∀ s : ByteArray, s = ss[i] → (x.l ++ (ss.map bs).take i).map sizeV ++ [.int .i64 (8 + (s.size : Int))] = (x.l ++ (ss.map bs).take (i + 1)).map sizeV := by
        rintro s rfl
        rw [List.take_succ_eq_append_getElem (by simpa using hlt), ← List.append_assoc, List.map_append (l₂ := [_])]
        simp [sizeV, bs_length]
      have HLAST := Lib.hid hlast
      have HROW := Lib.hid hrow
      have HLN := Lib.hid hln
      obtain ⟨s, hs⟩ : ∃ s, s = ss[i] := ⟨_, rfl⟩
      rw [← hs] at hc hleI
      have HS := Lib.hid hs
      clear hW hT hF hk htx hle hln hrow hlast hs
      go_wp2_with (at_builtin; refine wpList_append_own_at _ rfl (.tmp 16) (.tmp 20) 35 rfl 0 3 i0 _ 1 8 Tryz.underlying35 HI.out.1 HI.out.2.1 HI.out.2.2.1 HI.out.2.2.2 rfl (by decide) sv' (x.l.length + i) _ rfl (HROW.out.alloc _) ⟨wr.heap.size, 0, none⟩ 1 1 [.int .i64 (8 + (s.size : Int))] rfl rfl (cell_one_new _ _ _) (by simp [Value.oneCell']) (by unfold maxLen; have := HLL.out; have := HSM.out; omega) (by have := HLL.out; have := HSM.out; omega) (Nat.zero_le _) ?_; intro v' w1 hown' hgrow _ hob; obtain ⟨g', cap', rfl⟩ := ownsRow_succ hown'; have t1 := Touch.of_grown hgrow; have hG1 := t1.blk (hG.alloc _) hgs; have k1 : w1.cell? ⟨g, 1, none⟩ = some sv' := hG1.cell 1; have k2 : w1.frozen? ⟨g, 1, none⟩ = false := hG1.frozen 1)
      obtain ⟨v', hv'⟩ : ∃ v' : Value, v' = .slice (some ⟨g', 0, none⟩) (x.l.length + i + 1) cap' := ⟨_, rfl⟩
      rw [← hv'] at hown' hob ⊢
      have HV := Lib.hid hv'
      clear hv'
      rw [HLAST.out s HS.out] at hown'
      have t2 : Touch (g :: sv'.ownBlock.toList) wr (w1.setCell ⟨g, 1, none⟩ v') :=
        ((((Touch.refl [] wr).alloc _).mono (S' := g :: sv'.ownBlock.toList) (by simp)).trans t1 (fun k hk => .inl (by simp at hk; simp [hk]))).setCell _ _ (.inl (by simp))
      have hW := HW.out
      have hgl := hW.blk.lt
      have hvg : ∀ k, v'.ownBlock = some k → k ≠ g ∧ (sv'.ownBlock = some k ∨ wr.heap.size ≤ k) := fun k hk => by
        rcases hob with h1 | h1
        · rw [hk] at h1
          exact ⟨fun e => hgs (by rw [← h1, e]; simp), .inl h1.symm⟩
        · rw [hk] at h1
          have h2 := Option.some.inj h1
          have h3 : (wr.alloc (.cells #[.int .i64 (8 + (s.size : Int))] 3)).heap.size = wr.heap.size + 1 := by simp
          exact ⟨by omega, .inr (by omega)⟩
      have hdk : ∀ k ∈ D, k ∉ g :: sv'.ownBlock.toList := fun k hk hm => by
        rcases List.mem_cons.1 hm with rfl | hm
        · exact hW.g_disk hk
        · exact hW.disk_row k (by simpa using hm) hk
      have hsm1 : (WM.all (x.l ++ (ss.map bs).take (i + 1))).length ≤ 1099511627776 := by
        have h1 := WM.all_take_mono (ss.map bs) (show i + 1 ≤ (ss.map bs).length by rw [List.length_map]; exact hlt)
        rw [List.take_length] at h1
        have h2 := HSM.out
        rw [WM.all_append, List.length_append] at h2 ⊢
        omega
      have hfr : Fresh w S (g :: (D ++ v'.ownBlock.toList)) := fun k hk => by
        have hsz := HTT.out.size
        rcases List.mem_cons.1 hk with rfl | hk
        · exact HF.out _ (by simp)
        · rcases List.mem_append.1 hk with hk | hk
          · exact HF.out k (by simp [hk])
          · rcases (hvg k (by simpa using hk)).2 with h1 | h1
            · exact HF.out k (by simp [h1])
            · exact .inr (by omega)
      have hnew : WalAt (w1.setCell ⟨g, 1, none⟩ v') (g :: (D ++ v'.ownBlock.toList)) D v' g b n { x with l := x.l ++ (ss.map bs).take (i + 1) } := by
        refine ⟨rfl, hW.disk.touch t2 hdk, hG1.set_ 1 v', ?_, H.out.firm, hsm1⟩
        have hl1 : ({ x with l := x.l ++ (ss.map bs).take (i + 1) } : LM.L).l.length = x.l.length + i + 1 := by simp; omega
        unfold SizeRow
        rw [hl1]
        exact row_far hown' ((Touch.refl [g] w1).setCell ⟨g, 1, none⟩ v' (.inl (by simp))) (fun k hk => by simpa using (hvg k hk).1)
      have HNEW := Lib.hid hnew
      have HT2 := Lib.hid (HTT.out.trans t2 (fun k hk => HF.out k (by
        rcases List.mem_cons.1 hk with rfl | hk
        · simp
        · simp at hk; simp [hk])))
      have HFR := Lib.hid hfr
      clear hnew hfr hsm1 hdk hvg hgl hW t2 hown' hgrow hob t1 hG1
      go_roundw
      case rel => exact ⟨i + 1, v', by omega, by go_num, HNEW.out, HT2.out, HFR.out⟩
      case measure => simp [intOf]; omega
    · have hie : (ss.map bs).take i = ss.map bs := List.take_of_length_le (by simp; omega)
      rw [hie] at HW
      clear hie hW hT hF
      go_wp2_with fail
      go_end0
      exact ⟨rfl, _, D, sv', HW.out, HTT.out, HF.out⟩
end Go.Proofs.YtmglkhnojimnlaaGreat

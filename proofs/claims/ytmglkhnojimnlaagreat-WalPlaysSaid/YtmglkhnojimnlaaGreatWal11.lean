/- Package wal: Open. -/
import Derived.Test.YtmglkhnojimnlaaGreatWal10
namespace Go.Proofs.YtmglkhnojimnlaaGreat
open Go.RowKit Go.Maps

section
variable {W : World} {b m : Nat} {Bn Bb Bd k : Nat} {txt : ByteArray} {d : DM.D} {D : List Nat}
set_option maxRecDepth 10000 in
theorem op1_any (hn : Blk W Bn 3 #[.int .i64 (k : Int)]) (hs : Blk W Bb 9 #[.string txt]) (hp : Blk W Bd 25 #[.pointer (some ⟨b, 0, none⟩)]) (hd : DiskF W D b m d) (hm : m < 1099511627775) (hk : k ≤ 1099511627776) (ht : txt.size ≤ 1099511627776) :
    Calls Tryz.prog 44 #[.pointer (some ⟨Bn, 0, none⟩), .pointer (some ⟨Bb, 0, none⟩), .pointer (some ⟨Bd, 0, none⟩)] W (DEnds D b m W (LM.cutAt d k txt.size)) := by
  have k0 := hn.cell 0
  have k1 := hs.cell 0
  have k2 := hp.cell 0
  have hkI : (k : Int) ≤ 1099511627776 := by omega
  have htI : (txt.size : Int) ≤ 1099511627776 := by omega
  by_cases he : k = txt.size
  · have hE := DEnds.same hd 0 (Touch.refl [] W)
    have h1 : LM.cutAt d k txt.size = (0, d) := by unfold LM.cutAt; rw [if_pos he]
    rw [h1]
    have HE := Lib.hid hE
    have hb : ((k : Int) == (txt.size : Int)) = true := by rw [beq_iff_eq]; omega
    have hb2 : (k == txt.size) = true := by rw [beq_iff_eq]; omega
    clear hE h1 hn hs hp hd hm he
    go_enter Tryz.func44, Tryz.ntmps44
    go_wp2_with fail
    go_ret
    exact HE.out
  · have h1 : LM.cutAt d k txt.size = DM.cut d LM.walN (k : Int) := by unfold LM.cutAt; rw [if_neg he]
    rw [h1]
    have hc := dcut hd hm walS (by decide) (k : Int) (wf64 (by omega) (by omega))
    rw [nm_wal] at hc
    have HC := Lib.hid hc
    have hb : ((k : Int) == (txt.size : Int)) = false := by rw [beq_eq_false_iff_ne]; omega
    have hb2 : (k == txt.size) = false := by rw [beq_eq_false_iff_ne]; omega
    clear hc h1 hn hs hp hd hm he
    go_enter Tryz.func44, Tryz.ntmps44
    go_wp2_with fail
    refine HC.out.mono ?_
    intro e w' hd
    have HD := Lib.hid hd
    obtain ⟨rfl, _⟩ := hd
    go_wp2_with fail
    go_ret
    exact HD.out
theorem op2_any (hp : Blk W Bd 25 #[.pointer (some ⟨b, 0, none⟩)]) (hd : DiskF W D b m d) (hm : m < 1099511627775) :
    Calls Tryz.prog 46 #[.pointer (some ⟨Bd, 0, none⟩)] W (DEnds D b m W (DM.sync d LM.walN)) := by
  have k2 := hp.cell 0
  have hc := dsync hd hm walS (by decide)
  rw [nm_wal] at hc
  have HC := Lib.hid hc
  clear hc hp hd hm
  go_enter Tryz.func46, Tryz.ntmps46
  go_wp2_with fail
  refine HC.out.mono ?_
  intro e w' hd
  have HD := Lib.hid hd
  obtain ⟨rfl, _⟩ := hd
  go_wp2_with fail
  go_ret
  exact HD.out
end
def opVs (Bn Bb Bd : Nat) : Array Value := #[.func (.func 44) #[] #[.pointer (some ⟨Bn, 0, none⟩), .pointer (some ⟨Bb, 0, none⟩), .pointer (some ⟨Bd, 0, none⟩)], .func (.func 46) #[] #[.pointer (some ⟨Bd, 0, none⟩)]]
def opFs (Bn Bb Bd : Nat) : List (Nat × Array Value) := [(44, #[.pointer (some ⟨Bn, 0, none⟩), .pointer (some ⟨Bb, 0, none⟩), .pointer (some ⟨Bd, 0, none⟩)]), (46, #[.pointer (some ⟨Bd, 0, none⟩)])]
def ops (d : DM.D) (k s : Nat) : Nat → Int × DM.D
  | 0 => (0, d)
  | 1 => LM.cutAt d k s
  | _ => DM.sync (LM.cutAt d k s).2 LM.walN
set_option maxRecDepth 10000 in
theorem opRow_any {W : World} {b m : Nat} {Bn Bb Bd Bf k cap : Nat} {txt : ByteArray} {d : DM.D} {D : List Nat} (hn : Blk W Bn 3 #[.int .i64 (k : Int)]) (hs : Blk W Bb 9 #[.string txt]) (hp : Blk W Bd 25 #[.pointer (some ⟨b, 0, none⟩)])
    (hf : Blk W Bf 51 (opVs Bn Bb Bd)) (hd : DiskF W D b m d) (hm : m < 1099511627700) (hk : k ≤ 1099511627776) (ht : txt.size ≤ 1099511627776) :
    Calls Tryz.prog 43 #[.slice (some ⟨Bf, 0, none⟩) 2 cap] W (RowEnd fun c W' => c = (LM.seq (LM.cutAt d k txt.size) (fun d => DM.sync d LM.walN)).1 ∧ ∃ D', DiskF W' D' b (m + 4) (LM.seq (LM.cutAt d k txt.size) (fun d => DM.sync d LM.walN)).2 ∧ Touch D W W' ∧ Fresh W D D') := by
  have hfo := hd.foot
  refine row_any W Bf cap (opFs Bn Bb Bd) (fun i W' => (∀ j, j ≤ i → (ops d k txt.size j).1 = 0) ∧ ∃ D', DiskF W' D' b (m + 2 * i) (ops d k txt.size i).2 ∧ Touch D W W' ∧ Fresh W D D') _ ?_ ?_ ?_ ?_ ?_ (by simp [opFs])
  · rintro i W' ⟨_, D', hr, ht, _⟩ j hj
    rw [(ht.blk hf (hfo.ne hf (by decide))).cell j]
    have hj2 : j < 2 := hj
    match j, hj2 with
    | 0, _ => rfl
    | 1, _ => rfl
  · intro j hj args W'
    have hj2 : j < 2 := hj
    match j, hj2 with
    | 0, _ => rfl
    | 1, _ => rfl
  · rintro i hi W' ⟨h0, D', hr, ht', hf'⟩
    have hi2 : i < 2 := hi
    have b1 := ht'.blk hn (hfo.ne hn (by decide))
    have b2 := ht'.blk hs (hfo.ne hs (by decide))
    have b3 := ht'.blk hp (hfo.ne hp (by decide))
    have go : ∀ e W1, DEnds D' b (m + 2 * i) W' (ops d k txt.size (i + 1)) e W1 → RowEnd (fun c W1 => c = 0 ∧ ((∀ j, j ≤ i + 1 → (ops d k txt.size j).1 = 0) ∧ ∃ D', DiskF W1 D' b (m + 2 * (i + 1)) (ops d k txt.size (i + 1)).2 ∧ Touch D W W1 ∧ Fresh W D D') ∨
        c ≠ 0 ∧ (c = (LM.seq (LM.cutAt d k txt.size) (fun d => DM.sync d LM.walN)).1 ∧ ∃ D', DiskF W1 D' b (m + 4) (LM.seq (LM.cutAt d k txt.size) (fun d => DM.sync d LM.walN)).2 ∧ Touch D W W1 ∧ Fresh W D D')) e W1 := by
      rintro e W1 ⟨rfl, D'', h1, h2, h3⟩
      refine ⟨_, rfl, ?_⟩
      have tt := ht'.trans h2 hf'
      have ff := hf'.trans h3 ht'.size
      by_cases hz : (ops d k txt.size (i + 1)).1 = 0
      · refine .inl ⟨hz, fun j hj => ?_, D'', h1, tt, ff⟩
        rcases Nat.lt_or_ge i j with h4 | h4
        · obtain rfl : j = i + 1 := by omega
          exact hz
        · exact h0 j h4
      · have hre : LM.seq (LM.cutAt d k txt.size) (fun d => DM.sync d LM.walN) = ops d k txt.size (i + 1) := by
          unfold LM.seq
          match i, hi2 with
          | 0, _ => exact if_neg hz
          | 1, _ => exact if_pos (h0 1 (by omega))
        refine .inr ⟨hz, by rw [hre], D'', ?_, tt, ff⟩
        rw [hre]
        exact h1.mono (by omega)
    match i, hi2 with
    | 0, _ => exact (op1_any b1 b2 b3 hr (by omega) hk ht).mono go
    | 1, _ => exact (op2_any b3 hr (by omega)).mono go
  · exact ⟨fun j hj => by obtain rfl : j = 0 := by omega
                          rfl, D, hd, Touch.refl _ _, Fresh.refl _ _⟩
  · rintro W' ⟨h0, D', hr, ht', hf'⟩
    have h0' : ∀ j, j ≤ 2 → (ops d k txt.size j).1 = 0 := h0
    have hre : LM.seq (LM.cutAt d k txt.size) (fun d => DM.sync d LM.walN) = ops d k txt.size 2 := if_pos (h0' 1 (by omega))
    rw [hre]
    exact ⟨(h0' 2 (by omega)).symm, D', hr, ht', hf'⟩

theorem map_bs_ofBs : ∀ l : List WM.Bs, (l.map ofBs).map bs = l
  | [] => rfl
  | s :: l => by simp only [List.map_cons, bs_ofBs, map_bs_ofBs l]
theorem read_size (d : DM.D) (k : DM.N) : (DM.read d k).1.size ≤ DM.used d.fl := by
  unfold DM.read
  split
  · rw [DM.getF_size]; exact DM.sz_le _ _
  · exact Nat.zero_le _
/-- how opening ends -/
def OpenBad (S : List Nat) (b n : Nat) (w : World) (r : Int × DM.D) (e : Ending) (w' : World) : Prop :=
  r.1 ≠ 0 ∧ e = .returned (.tuple #[.pointer none, .slice none 0 0, .int .i64 r.1]) ∧ ∃ D', DiskF w' D' b n r.2 ∧ Touch S w w' ∧ Fresh w S D'
def OpenGood (S : List Nat) (b n : Nat) (w : World) (r : (Int × DM.D) × List WM.Bs) (e : Ending) (w' : World) : Prop :=
  r.1.1 = 0 ∧ ∃ g a cap S' D' sv, e = .returned (.tuple #[.pointer (some ⟨g, 0, none⟩), .slice a r.2.length cap, .int .i64 0]) ∧ WalAt w' S' D' sv g b n (LM.start r.1.2 r.2) ∧ TextsB w' a (r.2.map ofBs) ∧ (r.2.length ≤ cap ∧ (a = none → cap = 0)) ∧ cap ≤ maxLen ∧ Touch S w w' ∧ Fresh w S S'
def OpenEnd (S : List Nat) (b n : Nat) (w : World) (r : (Int × DM.D) × List WM.Bs) (e : Ending) (w' : World) : Prop := OpenBad S b n w r.1 e w' ∨ OpenGood S b n w r e w'
set_option maxRecDepth 10000 in
set_option maxHeartbeats 3200000 in
theorem open_any {w : World} {S : List Nat} {b n : Nat} {d : DM.D} (h : DiskF w S b n d) (hn : n < 1099511627600) :
    Calls Tryz.prog 18 #[.pointer (some ⟨b, 0, none⟩)] w (OpenEnd S b (n + 6) w (LM.opened d)) := by
  have hfo := h.foot
  have hon := fun W (T : Touch [] w W) => don (h.touch T (by simp))
  have hcl := fun W (T : Touch [] w W) => clear_any (h.touch T (by simp)) (show n < 1099511627775 by omega)
  have HON := Lib.hid hon
  have HCL := Lib.hid hcl
  have HFO := Lib.hid hfo
  obtain ⟨w1, hw1⟩ : ∃ w1, w1 = w.alloc (.cells #[.pointer (some ⟨b, 0, none⟩)] 25) := ⟨_, rfl⟩
  have T1 : Touch [] w w1 := hw1 ▸ (Touch.refl [] w).alloc _
  have hB1 : Blk w1 w.heap.size 25 #[.pointer (some ⟨b, 0, none⟩)] := hw1 ▸ Blk.new _ _ _
  have HW1 := Lib.hid hw1
  have c1 := hB1.cell 0
  by_cases ho : d.off = true
  · have he : LM.opened d = ((14, d), []) := by unfold LM.opened; rw [if_pos ho]
    rw [he]
    rw [ho] at HON
    have hE : OpenEnd S b (n + 6) w ((14, d), []) (.returned (.tuple #[.pointer none, .slice none 0 0, .int .i64 14])) w1 :=
      .inl ⟨by simp, rfl, S, (h.touch T1 (by simp)).mono (by omega), T1.mono (by simp), Fresh.refl _ _⟩
    have HE := Lib.hid hE
    clear he hE h hfo hon hcl ho hw1
    go_enter Tryz.func18, Tryz.ntmps18
    go_wp2_with fail
    rw [← HW1.out]
    refine (HON.out _ T1).mono ?_
    rintro e w' ⟨rfl, rfl⟩
    go_wp2_with fail
    go_ret3
    exact HE.out
  · have ho' : d.off = false := by simpa using ho
    rw [ho'] at HON
    obtain ⟨c, hc⟩ : ∃ c, c = LM.clear d := ⟨_, rfl⟩
    have he : LM.opened d = if c.1 = 0 then (if (DM.look c.2.fl LM.walN).isSome = true then LM.fixup c.2 else ((0, c.2), [])) else (c, []) := by
      unfold LM.opened
      rw [if_neg ho, ← hc]
    rw [← hc] at HCL
    obtain ⟨w2, hw2⟩ : ∃ w2, w2 = w1.alloc (.cells #[.pointer (some ⟨b, 0, none⟩), .slice none 0 0, .int .i64 0, .bool false] 70) := ⟨_, rfl⟩
    have T2 : Touch [] w w2 := hw2 ▸ T1.alloc _
    have hB2 : Blk w2 w.heap.size 25 #[.pointer (some ⟨b, 0, none⟩)] := hw2 ▸ hB1.alloc _
    have hG2 : Blk w2 w1.heap.size 70 (walV b (.slice none 0 0) 0 false) := hw2 ▸ Blk.new _ _ _
    have hs1 : w1.heap.size = w.heap.size + 1 := by rw [hw1]; simp
    have HEQ := Lib.hid he
    have HW2 := Lib.hid hw2
    have HS1 := Lib.hid hs1
    have hfo2 : Foot w2 S [55] := (h.touch T2 (by simp)).foot
    have HFO2 := Lib.hid hfo2
    have c2 := hB2.cell 0
    clear he h hfo hon hcl ho ho' hw1 hc hw2 hs1 hfo2
    go_enter Tryz.func18, Tryz.ntmps18
    go_wp2_with fail
    rw [← HW1.out]
    refine (HON.out _ T1).mono ?_
    rintro e w1 ⟨rfl, rfl⟩
    have c2' := c2
    rw [HW2.out] at c2'
    go_wp2_with fail
    rw [← HW2.out]
    refine (HCL.out _ T2).mono ?_
    rintro e w3 ⟨rfl, D3, hd3, t3, f3⟩
    have B3 := t3.blk hB2 (HFO2.out.ne hB2 (by decide))
    have G3 := t3.blk hG2 (HFO2.out.ne hG2 (by decide))
    have tt3 : Touch S w w3 := (T2.mono (S' := S) (by simp)).trans t3 (fun k hk => .inl hk)
    have ff3 : Fresh w S D3 := fun k hk => (f3 k hk).elim .inl (fun h1 => .inr (Nat.le_trans T2.size h1))
    have c3 := B3.cell 0
    clear c1 c2 c2' hB2 hG2 t3 f3
    have HT3 := Lib.hid tt3
    have HF3 := Lib.hid ff3
    by_cases hc0 : c.1 = 0
    · have HC0 := Lib.hid hc0
      have hco := fun W a cap (hs : SliceS W a (DM.names c.2.fl)) => contains_any W a cap c.2.fl walS hs (by
        obtain ⟨mo, hd, _⟩ := hd3
        have := hd.fit.len; omega)
      rw [nm_wal] at hco
      have hna := dnames hd3 (show n + 2 < 1099511627776 by omega)
      have HNA := Lib.hid hna
      obtain ⟨is, his⟩ : ∃ is, is = (DM.look c.2.fl LM.walN).isSome := ⟨_, rfl⟩
      rw [← his] at hco
      have HCO := Lib.hid hco
      have HIS := Lib.hid his
      have HD3 := Lib.hid hd3
      obtain ⟨cv, hcv⟩ : ∃ cv, cv = c.1 := ⟨_, rfl⟩
      rw [← hcv] at hc0 ⊢
      subst hc0
      clear hcv hco hna his hd3 tt3 ff3
      cases is
      · go_wp2_with fail
        refine HNA.out.mono ?_
        rintro e w4 ⟨a, cap, rfl, hs, T4⟩
        have hcc := HCO.out w4 a cap hs
        have HCC := Lib.hid hcc
        clear hcc hs
        go_wp2_with fail
        refine HCC.out.mono ?_
        rintro e w4 ⟨rfl, rfl⟩
        go_wp2_with fail
        go_ret3
        rw [HEQ.out, if_pos HC0.out, if_neg (by rw [← HIS.out]; decide)]
        refine .inr ⟨rfl, _, none, 0, _, D3, .slice none 0 0, rfl, ⟨rfl, (HD3.out.touch T4 (by simp)).mono (by omega), T4.blk G3 (by simp), World.ownsRow_nil _ _ _ _, Nat.zero_le _, by simp [LM.start, WM.all]⟩, .inl rfl, ⟨Nat.le_refl _, fun _ => rfl⟩, Nat.zero_le _, HT3.out.trans T4 (by simp), ?_⟩
        have hs1 := HS1.out
        intro k hk
        rcases List.mem_cons.1 hk with rfl | hk
        · exact .inr (by omega)
        · simp [Value.ownBlock] at hk
          exact HF3.out k hk
      · obtain ⟨rd, hrd⟩ : ∃ rd, rd = DM.read c.2 LM.walN := ⟨_, rfl⟩
        have hread := fun W (T : Touch [] w3 W) => dread (HD3.out.touch T (by simp)) walS (by decide)
        rw [nm_wal, ← hrd] at hread
        have hrs : rd.1.size ≤ 1099511627776 := by
          obtain ⟨mo, hd, _⟩ := HD3.out
          have h1 := hd.fit.small
          have h2 := read_size c.2 LM.walN
          rw [← hrd] at h2
          omega
        have HRS := Lib.hid hrs
        have HREAD := Lib.hid hread
        have HRDE := Lib.hid hrd
        have hfix : LM.opened d = if rd.2 = 0 then (if (LM.seq (LM.cutAt c.2 (WM.recs (bs rd.1)).2 rd.1.size) (fun d => DM.sync d LM.walN)).1 = 0 then (LM.seq (LM.cutAt c.2 (WM.recs (bs rd.1)).2 rd.1.size) (fun d => DM.sync d LM.walN), (WM.recs (bs rd.1)).1) else (LM.seq (LM.cutAt c.2 (WM.recs (bs rd.1)).2 rd.1.size) (fun d => DM.sync d LM.walN), [])) else ((rd.2, c.2), []) := by
          rw [HEQ.out, if_pos HC0.out, if_pos (by rw [← HIS.out]), hrd]
          rfl
        have HFX := Lib.hid hfix
        obtain ⟨txt, htxt⟩ : ∃ t, t = rd.1 := ⟨_, rfl⟩
        obtain ⟨re, hre⟩ : ∃ t, t = rd.2 := ⟨_, rfl⟩
        rw [← htxt] at HFX HRS HREAD
        rw [← hre] at HFX HREAD
        have hrec := fun W => records_any W txt HRS.out
        have HREC := Lib.hid hrec
        clear hread hrs hrd hfix htxt hre hrec
        go_wp2_with fail
        refine HNA.out.mono ?_
        rintro e w4 ⟨a, cap, rfl, hs, T4⟩
        have hcc := HCO.out w4 a cap hs
        have HCC := Lib.hid hcc
        have B4 := T4.blk B3 (by simp)
        have G4 := T4.blk G3 (by simp)
        have c4 := B4.cell 0
        clear hcc hs c3
        go_wp2_with fail
        refine HCC.out.mono ?_
        rintro e w4 ⟨rfl, rfl⟩
        go_wp2_with fail
        refine (HREAD.out _ T4).mono ?_
        rintro e w5 ⟨rfl, T5⟩
        obtain ⟨w6, hw6⟩ : ∃ w6, w6 = w5.alloc (.cells #[.string txt] 9) := ⟨_, rfl⟩
        have T36 : Touch [] w3 w6 := hw6 ▸ (T4.trans T5 (by simp)).alloc _
        have B6 : Blk w6 w.heap.size 25 #[.pointer (some ⟨b, 0, none⟩)] := hw6 ▸ (T5.blk B4 (by simp)).alloc _
        have G6 : Blk w6 w1.heap.size 70 (walV b (.slice none 0 0) 0 false) := hw6 ▸ (T5.blk G4 (by simp)).alloc _
        have S6 : Blk w6 w5.heap.size 9 #[.string txt] := hw6 ▸ Blk.new _ _ _
        have HW6 := Lib.hid hw6
        have HT36 := Lib.hid T36
        clear hw6 T36 c4 G4 B4 T5 T4 G3 B3
        by_cases hre0 : re = 0
        · subst hre0
          go_wp2_with fail
          rw [← HW6.out]
          refine (HREC.out _).mono ?_
          rintro e w7 ⟨v, rfl, hrow7, T7⟩
          obtain ⟨a7, cap7, rfl, hl7, hm7, htx7⟩ := hrow7.open'
          rw [List.length_map]
          rw [List.length_map] at hl7
          obtain ⟨q1, q2, q3⟩ := LM.recs_take _ (bs txt) (Nat.le_refl _)
          rw [bs_length] at q2
          obtain ⟨l, hl⟩ : ∃ l, l = (WM.recs (bs txt)).1 := ⟨_, rfl⟩
          obtain ⟨k, hk⟩ : ∃ k, k = (WM.recs (bs txt)).2 := ⟨_, rfl⟩
          rw [← hl] at q1 q3 htx7 hl7 HFX ⊢
          rw [← hk] at q1 q2 HFX ⊢
          have hall : (WM.all l).length ≤ 1099511627776 := by
            rw [← q1, List.length_take, bs_length]
            have := HRS.out
            omega
          have hkk : k ≤ 1099511627776 := by have := HRS.out; omega
          obtain ⟨r, hr⟩ : ∃ r, r = LM.seq (LM.cutAt c.2 k txt.size) (fun d => DM.sync d LM.walN) := ⟨_, rfl⟩
          rw [← hr] at HFX
          obtain ⟨w8, hw8⟩ : ∃ w8, w8 = w7.alloc (.cells #[.int .i64 (k : Int)] 3) := ⟨_, rfl⟩
          obtain ⟨w9, hw9⟩ : ∃ w9, w9 = w8.alloc (.cells (opVs w7.heap.size w5.heap.size w.heap.size) 51) := ⟨_, rfl⟩
          have T69 : Touch [] w6 w9 := hw9 ▸ (hw8 ▸ T7.alloc _ : Touch [] w6 w8).alloc _
          have B9 := T69.blk B6 (by simp)
          have G9 := T69.blk G6 (by simp)
          have S9 := T69.blk S6 (by simp)
          have N9 : Blk w9 w7.heap.size 3 #[.int .i64 (k : Int)] := hw9 ▸ (hw8 ▸ Blk.new w7 _ _ : Blk w8 w7.heap.size 3 #[.int .i64 (k : Int)]).alloc _
          have F9 : Blk w9 w8.heap.size 51 (opVs w7.heap.size w5.heap.size w.heap.size) := hw9 ▸ Blk.new w8 _ _
          have t79 : Touch [] w7 w9 := hw9 ▸ (hw8 ▸ (Touch.refl [] w7).alloc _ : Touch [] w7 w8).alloc _
          have htx9 := htx7.touch t79
          have T39 := HT36.out.trans T69 (by simp)
          have hd9 := HD3.out.touch T39 (by simp)
          have hfo9 := hd9.foot
          have hrow := fun cap => opRow_any (cap := cap) N9 S9 B9 F9 hd9 (by omega) hkk HRS.out
          rw [← hr, hw9, hw8] at hrow
          unfold opVs at hrow
          have hs8 : (w7.alloc (.cells #[.int .i64 (k : Int)] 3)).heap.size = w7.heap.size + 1 := by simp
          rw [hs8] at hrow
          have HROW := Lib.hid hrow
          have HT39 := Lib.hid T39
          have HFO9 := Lib.hid hfo9
          have HTX9 := Lib.hid htx9
          have HQ3 := Lib.hid q3
          have HALL := Lib.hid hall
          have HL7 := Lib.hid hl7
          have HM7 := Lib.hid hm7
          have HW8 := Lib.hid hw8
          have HW9 := Lib.hid hw9
          have HG9 := Lib.hid G9
          clear hrow hs8 B9 G9 S9 N9 F9 T69 T7 hd9 hfo9 htx9 q1 q2 q3 hall hkk hl7 hm7 hl hk hr t79 htx7 hrow7 hw9 hw8 T39 B6 G6 S6
          go_wp2_with fail
          refine (HROW.out _).mono ?_
          rintro e w10 ⟨k', rfl, rfl, D', hd10, t10, f10⟩
          have t10' : Touch D3 w9 w10 := by rw [HW9.out, HW8.out]; exact t10
          have f10' : Fresh w9 D3 D' := by rw [HW9.out, HW8.out]; exact f10
          have G10 := t10'.blk HG9.out (HFO9.out.ne HG9.out (by decide))
          have tt9 : Touch S w w9 := HT3.out.trans HT39.out (by simp)
          have tt10 := tt9.trans t10' (fun k hk => HF3.out k hk)
          have fd10 : Fresh w S D' := fun k hk => (f10' k hk).elim (fun h1 => HF3.out k h1) (fun h1 => .inr (Nat.le_trans tt9.size h1))
          have ff10 : Fresh w S (w1.heap.size :: (D' ++ (Value.slice none 0 0).ownBlock.toList)) := fun k hk => by
            have hs1 := HS1.out
            rcases List.mem_cons.1 hk with rfl | hk
            · exact .inr (by omega)
            · simp [Value.ownBlock] at hk
              exact fd10 k hk
          have HD10 := Lib.hid hd10
          have HT10 := Lib.hid tt10
          have HFF10 := Lib.hid ff10
          have HFD10 := Lib.hid fd10
          by_cases hr0 : r.1 = 0
          · have hW10 : WalAt w10 (w1.heap.size :: (D' ++ (Value.slice none 0 0).ownBlock.toList)) D' (.slice none 0 0) w1.heap.size b (n + 2 + 4) ⟨r.2, [], 0, false⟩ := ⟨rfl, hd10, G10, World.ownsRow_nil _ _ _ _, Nat.zero_le _, by simp [WM.all]⟩
            have htx10 := HTX9.out.keep (KeepBut.of HFO9.out t10') (by decide)
            have hmb := map_bs_ofBs l
            have hh := have_any hW10 a7 cap7 (l.map ofBs) htx10 (by rw [hmb, List.nil_append]; exact HALL.out)
            rw [hmb, List.length_map] at hh
            simp only [List.nil_append] at hh
            have HH := Lib.hid hh
            have HW10 := Lib.hid hW10
            have HTX10 := Lib.hid htx10
            obtain ⟨rv, hrv⟩ : ∃ rv, rv = r.1 := ⟨_, rfl⟩
            rw [← hrv] at hr0 ⊢
            subst hr0
            have HRV := Lib.hid hrv
            clear hh hW10 htx10 hmb hrv t10 t10' f10 f10' G10 tt9 tt10 fd10 ff10 hd10
            go_wp2_with fail
            refine HH.out.mono ?_
            rintro e w11 ⟨rfl, S11, D11, sv11, hw11, t11, f11⟩
            have htx11 := HTX10.out.keep (KeepBut.of HW10.out.foots t11) (by decide)
            have hst := hw11.setFirm l.length hw11.len
            have htx12 := htx11.keep (KeepBut.of hw11.foots (hst.2.mono (S' := S11) (fun k hk => .inl (by simp at hk; subst hk; rw [hw11.foot]; simp)))) (by decide)
            have tt12 := (HT10.out.trans t11 HFF10.out).trans hst.2 (fun k hk => (HFF10.out.trans f11 HT10.out.size) k (by simp at hk; subst hk; rw [hw11.foot]; simp))
            have ff12 := HFF10.out.trans f11 HT10.out.size
            have z2 := hw11.c2
            have z2f := hw11.blk.frozen 2
            have HST := Lib.hid hst
            have HTX12 := Lib.hid htx12
            have HT12 := Lib.hid tt12
            have HF12 := Lib.hid ff12
            clear hst htx11 htx12 tt12 ff12 hw11 t11 f11
            go_wp2_with fail
            go_ret3
            rw [HFX.out, if_pos trivial, if_pos HRV.out.symm]
            exact .inr ⟨HRV.out.symm, _, a7, cap7, S11, D11, sv11, rfl, HST.out.1, HTX12.out, HL7.out, HM7.out, HT12.out, HF12.out⟩
          · have hr0' : (r.1 == 0) = false := by simpa using hr0
            have HR0 := Lib.hid hr0
            clear hr0 t10 t10' f10 f10' G10 tt9 tt10 fd10 ff10 hd10
            go_wp2_with fail
            go_ret3
            rw [HFX.out, if_pos trivial, if_neg HR0.out]
            exact .inl ⟨HR0.out, rfl, D', HD10.out, HT10.out, HFD10.out⟩
        · have hre0' : (re == 0) = false := by simpa using hre0
          have HRE0 := Lib.hid hre0
          clear hre0
          go_wp2_with fail
          go_ret3
          rw [HFX.out, if_neg HRE0.out, ← HW6.out]
          exact .inl ⟨HRE0.out, rfl, D3, (HD3.out.touch HT36.out (by simp)).mono (by omega), HT3.out.trans HT36.out (by simp), HF3.out⟩
    · have hc0' : (c.1 == 0) = false := by simpa using hc0
      have HC0 := Lib.hid hc0
      have HD3 := Lib.hid hd3
      clear hc0 hd3 tt3 ff3
      go_wp2_with fail
      go_ret3
      rw [HEQ.out, if_neg HC0.out]
      exact .inl ⟨HC0.out, rfl, D3, HD3.out.mono (by omega), HT3.out, HF3.out⟩
end Go.Proofs.YtmglkhnojimnlaaGreat

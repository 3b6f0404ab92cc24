/- Put: what is put. -/
import Derived.Test.YtibbfihnhlgkeaaGreatCacheZ
import Derived.Deep.RegionHeld3
import Derived.Deep.DeepCutAuto
namespace Go.Proofs.YtibbfihnhlgkeaaGreat
open Go.RowKit Go.Maps Go.WideMaps
open NM (Bs bs ofBs)
open CM (It C)

theorem without_some {l : List It} {k : ByteArray} {x : It} (h : CM.find l k = some x) : CM.without l k = CM.remove l (CM.place l x.g) := by unfold CM.without; rw [h]; rfl
theorem without_none {l : List It} {k : ByteArray} (h : CM.find l k = none) : CM.without l k = l := by unfold CM.without; rw [h]
/-- the new entry lies in the map and in the heap -/
theorem Mid.pushed {w W W1 W2 : World} {B mb : Nat} {v v2 : Value} {m u : Int} {l : List It} {F : List Nat} (h : Mid w W B (some mb) v m u l F) (x : It)
    (hnew : ∀ y ∈ l, y.key ≠ x.key) (hx : Blk W x.g 65 (itV x 0)) (hge : w.heap.size ≤ x.g)
    (hrow : W.ownsRow 0 60 5 x.rv x.e.recs.length (flat x.e.recs)) (hok : x.key = CM.key x.e ∧ CM.check x.e = 0 ∧ EFits x.e) (hl : l.length ≤ 1000000)
    (hm : MapP W1 (some mb) (CM.push l x)) (t1 : Touch [mb] W W1) (hp : Hp W2 B #[.int .i64 m, .map (some mb), v2, .int .i64 u] v2 (CM.push l x)) (t2 : Touch (foot B v (x :: l)) W1 W2)
    (hv : ∀ k, v2.ownBlock = some k → v.ownBlock = some k ∨ W1.heap.size ≤ k) : Mid w W2 B (some mb) v2 m u (CM.push l x) F := by
  have hK := h.k
  have hpm := CM.push_perm l x
  have hxl : ∀ y ∈ CM.push l x, y = x ∨ y ∈ l := fun y hy => by simpa using hpm.subset hy
  have hmne := hK.map_ne rfl
  have hxc : x.g ∉ cfoot B (some mb) v l ∨ w.heap.size ≤ x.g := .inr hge
  have T : Touch (x.g :: cfoot B (some mb) v l) W W2 := by
    refine (t1.mono (S' := x.g :: cfoot B (some mb) v l) (fun k hk => .inl ?_)).trans t2 (fun k hk => .inl ?_)
    · simp only [List.mem_cons, List.not_mem_nil, or_false] at hk
      subst hk
      unfold cfoot
      simp
    · unfold foot at hk
      unfold cfoot
      simp only [List.mem_cons, List.mem_append, List.map_cons] at hk ⊢
      rcases hk with hk | hk | hk | hk
      · exact .inr (.inl hk)
      · exact .inr (.inr (.inr (.inl hk)))
      · exact .inl hk
      · exact .inr (.inr (.inr (.inr hk)))
  have hrr : ∀ y, (y = x ∨ y ∈ l) → W2.ownsRow 0 60 5 y.rv y.e.recs.length (flat y.e.recs) := by
    have hxg : ∀ {k cur}, Blk W k 60 cur → k ∉ x.g :: cfoot B (some mb) v l := fun {k cur} hb hm => by
      rcases List.mem_cons.1 hm with e | hm
      · exact hb.ne_type hx (by decide) e
      · exact hK.ne_blk hb (by decide) (by decide) (by decide) hm
    have hgen : ∀ y : It, W.ownsRow 0 60 5 y.rv y.e.recs.length (flat y.e.recs) → W2.ownsRow 0 60 5 y.rv y.e.recs.length (flat y.e.recs) := fun y hy => by
      refine trow_touch hy T (fun k hk => ?_)
      rcases hy.2 with ⟨e, _⟩ | ⟨g, cap, cur, e, _, hg, _⟩
      · rw [e] at hk; cases hk
      · rw [e] at hk
        injection hk with hk
        subst hk
        exact hxg (cur := cur) hg
    intro y hy
    rcases hy with rfl | hy
    · exact hgen y hrow
    · exact hgen y (hK.recs y hy)
  refine ⟨⟨hp, ?_, ?_, fun y hy => hrr y (hxl y hy), ?_, ?_⟩, ?_, ?_⟩
  · refine hm.touch t2 (fun k hk hm2 => ?_)
    injection hk with hk
    subst hk
    unfold foot at hm2
    simp only [List.mem_cons, List.mem_append, List.map_cons] at hm2
    rcases hm2 with e | e | e | e
    · exact hmne.1 e
    · rw [Option.mem_toList] at e
      exact hmne.2.1 _ e rfl
    · rcases hK.map with ⟨e2, _⟩ | ⟨mb', Dm, e2, ⟨es, clock, hh, _⟩, _⟩
      · cases e2
      · injection e2 with e2
        subst e2
        exact hx.ne_map hh e.symm
    · obtain ⟨y, hy, e⟩ := List.mem_map.1 e
      exact hmne.2.2 y hy e.symm
  · refine (hpm.map _).nodup_iff.2 ?_
    rw [List.map_cons, List.nodup_cons]
    refine ⟨fun hm3 => ?_, hK.keys⟩
    obtain ⟨y, hy, e⟩ := List.mem_map.1 hm3
    exact hnew y hy e
  · intro y hy
    rcases hxl y hy with rfl | hy
    · exact hok
    · exact hK.ok y hy
  · rw [CM.push_length]
    omega
  · refine h.t.trans T (fun k hk => ?_)
    rcases List.mem_cons.1 hk with rfl | hk
    · exact .inr hge
    · exact h.f k hk
  · intro q hq
    unfold cfoot at hq
    simp only [List.mem_cons, List.mem_append] at hq
    rcases hq with hq | hq | hq | hq
    · exact h.f q (by unfold cfoot; simp [hq])
    · exact h.f q (by unfold cfoot; simp only [List.mem_cons, List.mem_append]; exact .inr (.inl hq))
    · rw [Option.mem_toList] at hq
      rcases hv q hq with e | e
      · exact h.f q (by unfold cfoot; simp only [List.mem_cons, List.mem_append, Option.mem_toList]; exact .inr (.inr (.inl e)))
      · exact .inr (Nat.le_trans (Nat.le_trans h.t.size t1.size) e)
    · obtain ⟨y, hy, rfl⟩ := List.mem_map.1 hq
      rcases hxl y hy with rfl | hy
      · exact .inr hge
      · exact h.f _ (by unfold cfoot; simp only [List.mem_cons, List.mem_append]; exact .inr (.inr (.inr (List.mem_map_of_mem hy))))
set_option maxRecDepth 10000 in
set_option maxHeartbeats 2000000 in
theorem put_main (w : World) (B : Nat) (mo : Option Nat) (v : Value) (m u : Int) (l : List It) (h : K w B mo v m u l) (e : CM.E) (rv : Value) (now : Int) (hf : EFits e) (hrec : RecsAt w rv e.recs) (hfar : ∀ g off n c, rv = .slice (some ⟨g, off, none⟩) n c → 0 < n → g ∉ cfoot B mo v l)
    (ht : 0 ≤ e.type ∧ e.type ≤ 65535) (hcl : 0 ≤ e.cls ∧ e.cls ≤ 65535) (hu : 0 ≤ u ∧ u ≤ 1099511627776) (hl : l.length ≤ 1000000)
    (hc : CM.check e = 0) (hnow : now ≤ e.til) (hr : CM.refused l e now = false) :
    Calls Tryz.prog 19 #[.pointer (some ⟨B, 0, none⟩), .agg (entV e rv), .int .i64 now] w (PutEnd w B mo v m u l e now) := by
  have HM := Lib.hid (show CM.mayPut ⟨m, u, l⟩ e now = true by
    unfold CM.mayPut
    rw [decide_eq_true (And.intro hc hnow), show CM.refused (CM.C.mk m u l).h e now = false from hr]
    rfl)
  have HE := Lib.hid (Blk.new w 31 (entV e rv))
  have T0 := (Touch.refl [] w).alloc (.cells (entV e rv) 31)
  have HT := Lib.hid T0
  have HC := Lib.hid (ccheck_any _ e rv hf (hrec.touch0 HT.out))
  rw [hc] at HC
  have HMID := Lib.hid (fun W (t : Touch [] w W) => (Mid.start h).quiet t)
  have HREC := Lib.hid (fun W (t : Touch (cfoot B mo v l) w W) => hrec.touch t hfar)
  have HF := Lib.hid (And.intro hf (And.intro hc (And.intro hu hl)))
  have hks : (CM.key e).size ≤ maxLen := by have := key_size hc; unfold maxLen; omega
  have hkey := fun W => ckey_any W e rv hf.1 ht hcl
  have hgs := h.hp.gs
  have HGS := Lib.hid (And.intro h.hp.gs h.keys)
  obtain ⟨W0, hW0⟩ : ∃ W, W = w.alloc (.cells (entV e rv) 31) := ⟨_, rfl⟩
  rw [← hW0] at HE HT HC
  obtain ⟨D, hD⟩ : ∃ D, D = w.heap.size := ⟨_, rfl⟩
  rw [← hD] at HE
  have HD := Lib.hid hD
  have HW0 := Lib.hid hW0
  obtain ⟨k, hk⟩ : ∃ k, k = CM.key e := ⟨_, rfl⟩
  have HKE := Lib.hid hk
  rw [← hk] at hkey hks
  have HKEY := Lib.hid hkey
  have HKS := Lib.hid hks
  obtain ⟨F, hF⟩ : ∃ F, F = cfoot B mo v l := ⟨_, rfl⟩
  have HFF := Lib.hid hF
  rw [← hF] at HMID HREC
  have HRF := Lib.hid hr
  clear hc hf hrec hW0 hD hk hkey T0 ht hcl hks hfar h hu hl hgs hF hr
  have hnow2 : ¬ e.til < now := by omega
  obtain ⟨til, htil⟩ : ∃ t, t = e.til := ⟨_, rfl⟩
  rw [← htil] at hnow hnow2
  have HTIL := Lib.hid htil
  clear htil hnow2
  go_enter Tryz.func19, Tryz.ntmps19
  go_upto_region 1 with (fail)
  rw [← HW0.out, ← HD.out]
  obtain ⟨k0, k1, k2, k3, k4, k5, k6, k7, k8⟩ := entCells HE.out
  go_wp2_with fail
  refine HC.out.mono ?_
  rintro e1 w1 ⟨rfl, T1⟩
  clear k0 k1 k2 k3 k4 k5 k6 k7 k8
  have b1 := T1.blk HE.out (by simp)
  have c5 : w1.cell? ⟨D, 5, none⟩ = some (.int .i64 til) := by rw [HTIL.out]; exact b1.cell 5
  have HT1 := Lib.hid (HT.out.trans T1 (by simp))
  have HB1 := Lib.hid b1
  clear T1 b1
  go_wp2_with (refine wpList_load_row rfl 31 (.tmp 4) rfl D rfl 31 (entV e rv) (0, 0) _ HB1.out Tryz.underlying31 rfl (by kernel_rfl) ?_)
  refine (HKEY.out _).mono ?_
  rintro e1 w2 ⟨rfl, T2⟩
  have M2 := HMID.out w2 (HT1.out.trans T2 (by simp))
  have HB2 := Lib.hid (T2.blk HB1.out (by simp))
  have hK2 := M2.k
  have c1 : w2.cell? ⟨B, 1, none⟩ = some (.map mo) := hK2.hp.blk.cell 1
  have hlook := hK2.map.look k HKS.out
  have HM2 := Lib.hid M2
  clear T2 M2 c5
  have hblk : ∀ (W W' : World) (mo1 : Option Nat) (v1 : Value) (u1 : Int) (l1 : List It), K W B mo1 v1 m u1 l1 → Blk W D 31 (entV e rv) → Touch (cfoot B mo1 v1 l1) W W' → Blk W' D 31 (entV e rv) := fun _ _ _ _ _ _ hk hb t => t.blk hb (hk.ne_blk hb (by decide) (by decide) (by decide))
  have HBLK := Lib.hid hblk
  clear hblk hK2
  obtain ⟨p, hp⟩ : ∃ p, p = hit l k := ⟨_, rfl⟩
  obtain ⟨b, hb⟩ : ∃ b, b = (CM.find l k).isSome := ⟨_, rfl⟩
  rw [← hp, ← hb] at hlook
  have hlook : (Instr.lookup 52 (.map mo) (.string k) true).run Tryz.prog w2 = .ok (.tuple #[p, .bool b]) w2 := hlook
  have HP := Lib.hid (And.intro hp hb)
  clear hp hb
  go_upto_region 5 with (fail)
  go_cut [54] (fun s wx => s = .bool false ∧ ∃ n, wx = w2.drewN n)
  case first =>
    cases hfi : CM.find l k with
    | none =>
      have hb : b = false := by rw [HP.out.2, hfi]; rfl
      subst hb
      clear hfi
      go_quiet (fail)
      go_wp2_with fail
      go_meet
      exact ⟨rfl, _, rfl⟩
    | some x =>
      have hb : b = true := by rw [HP.out.2, hfi]; rfl
      have hp : p = .pointer (some ⟨x.g, 0, none⟩) := by rw [HP.out.1, hit_some hfi]
      subst hb hp
      obtain ⟨hxl, hxk⟩ := CM.find_some hfi
      have hpl := CM.place_lt hxl
      have hpa := CM.place_at HGS.out.1 hxl
      have bx := HM2.out.k.hp.items _ hpl
      rw [hpa] at bx
      have c2 : w2.cell? ⟨x.g, 5, none⟩ = some (.int .i64 x.e.til) := bx.cell 5
      have c3 : w2.cell? ⟨x.g, 6, none⟩ = some (.int .i64 x.e.rank) := bx.cell 6
      have c6 : w2.cell? ⟨D, 6, none⟩ = some (.int .i64 e.rank) := HB2.out.cell 6
      have hnr : ¬ (now ≤ x.e.til ∧ e.rank < x.e.rank) := by
        have := HRF.out
        unfold CM.refused at this
        rw [← HKE.out, hfi] at this
        simpa using this
      obtain ⟨a, ha⟩ : ∃ g, g = x.e.til := ⟨_, rfl⟩
      obtain ⟨q, hq⟩ : ∃ g, g = x.e.rank := ⟨_, rfl⟩
      obtain ⟨d, hd⟩ : ∃ g, g = e.rank := ⟨_, rfl⟩
      rw [← ha] at c2 hnr
      rw [← hq] at c3 hnr
      rw [← hd] at c6 hnr
      clear hfi hxl hxk hpl hpa bx ha hq hd hlook
      by_cases h1 : now ≤ a
      · have h2 : q ≤ d := by omega
        have h4 : decide (d < q) = false := decide_eq_false (by omega)
        clear hnr
        go_quiet (fail)
        go_wp2_with fail
        go_meet
        exact ⟨rfl, _, rfl⟩
      · have h2 : a < now := by omega
        have h3 : decide (now ≤ a) = false := decide_eq_false h1
        clear hnr h1
        go_quiet (fail)
        go_wp2_with fail
        go_meet
        exact ⟨rfl, _, rfl⟩
  case rest =>
    obtain ⟨rfl, nq, rfl⟩ := hcut
    clear hlook c1
    go_upto_if 55 with (fail)
    go_cut [] (fun wx => ∃ v1, Mid w wx B mo v1 m u (CM.without l k) F ∧ Blk wx D 31 (entV e rv))
    case first =>
      cases hfi : CM.find l k with
      | none =>
        have hb : b = false := by rw [HP.out.2, hfi]; rfl
        subst hb
        have HWO := Lib.hid (without_none hfi)
        clear hfi
        go_wp2_with fail
        go_meet
        exact ⟨v, by rw [HWO.out]; exact HM2.out.quiet (Touch.drewN _ _ _), HB2.out⟩
      | some x =>
        have hb : b = true := by rw [HP.out.2, hfi]; rfl
        have hp : p = .pointer (some ⟨x.g, 0, none⟩) := by rw [HP.out.1, hit_some hfi]
        subst hb hp
        obtain ⟨hxl, hxk⟩ := CM.find_some hfi
        have hpl := CM.place_lt hxl
        have hpa := CM.place_at HGS.out.1 hxl
        have hM := HM2.out.quiet (Touch.drewN [] w2 nq)
        have hd := drop_any (w2.drewN nq) B mo v m u l hM.k _ hpl
        rw [hpa] at hd
        have HD2 := Lib.hid (Calls.mono (R' := fun e1 w' => (∃ r, e1 = .returned r) ∧ ∃ v1, Mid w w' B mo v1 m u (CM.without l k) F ∧ Blk w' D 31 (entV e rv)) hd (fun e1 w' H => by
          obtain ⟨h1, v1, hk, t, hv⟩ := H
          refine ⟨h1, v1, ?_, HBLK.out _ _ _ _ _ _ hM.k (HB2.out.drewN nq) t⟩
          rw [without_some hfi]
          exact hM.sub hk t hv (fun y hy => (CM.remove_perm l _ hpl).subset (List.mem_cons_of_mem _ hy))))
        clear hfi hxl hxk hpl hpa hM hd
        go_wp2_with fail
        refine HD2.out.mono ?_
        rintro e1 w3 ⟨⟨r, rfl⟩, H⟩
        have HH := Lib.hid H
        clear H
        go_wp2_with fail
        go_meet
        exact HH.out
    case rest =>
      obtain ⟨v1, M3, b3⟩ := hcut
      obtain ⟨w3, rfl⟩ : ∃ w3, w3 = wc := ⟨_, rfl⟩
      have HM3 := Lib.hid M3
      have HB3 := Lib.hid b3
      have c1 : w3.cell? ⟨B, 1, none⟩ = some (.map mo) := M3.k.hp.blk.cell 1
      obtain ⟨bn, hbn⟩ : ∃ bn, bn = mo.isNone := ⟨_, rfl⟩
      have hq : ∀ w, (binOp .eql 52 (.map mo) (.map none)).run Tryz.prog w = .ok (.bool bn) w := fun w => by
        rw [hbn]
        cases mo
        · kernel_rfl
        · kernel_rfl
      have HBN := Lib.hid hbn
      clear M3 b3 hbn
      go_upto_if 63 with (fail)
      go_cut [] (fun wx => ∃ mb v1, Mid w wx B (some mb) v1 m u (CM.without l k) F ∧ Blk wx D 31 (entV e rv))
      case first =>
        cases mo with
        | some mb =>
          have hb2 : bn = false := HBN.out
          subst hb2
          go_wp2_with fail
          go_meet
          exact ⟨mb, v1, HM3.out, HB3.out⟩
        | none =>
          have hb2 : bn = true := HBN.out
          subst hb2
          have f1 : w3.frozen? ⟨B, 1, none⟩ = false := HM3.out.k.hp.blk.frozen 1
          have f2 : (w3.alloc (.map #[] 0)).frozen? ⟨B, 1, none⟩ = false := (HM3.out.k.hp.blk.alloc _).frozen 1
          have c2 : (w3.alloc (.map #[] 0)).cell? ⟨B, 1, none⟩ = some (.map none) := (HM3.out.k.hp.blk.alloc _).cell 1
          have hmm := @run_makeMap Tryz.prog
          have HK4 := Lib.hid HM3.out.k.newmap
          go_wp2_with fail
          go_meet
          refine ⟨w3.heap.size, v1, HM3.out.step HK4.out (((Touch.refl _ w3).alloc _).setCell ⟨B, 1, none⟩ _ (.inl (by unfold cfoot; simp))) (fun q hq => ?_), (HB3.out.alloc _).far (p := ⟨B, 1, none⟩) (HB3.out.ne_type HM3.out.k.hp.blk (by decide)) _⟩
          unfold cfoot at hq ⊢
          simp only [List.mem_cons, List.mem_append] at hq ⊢
          rcases hq with h | h | h
          · exact .inl (.inl h)
          · right
            rw [Option.mem_toList] at h
            injection h with h
            rw [← h]
            exact HM3.out.t.size
          · exact .inl (.inr (.inr h))
      case rest =>
        obtain ⟨mb, v2, M4, b4⟩ := hcut
        obtain ⟨w4, rfl⟩ : ∃ w4, w4 = wc := ⟨_, rfl⟩
        have HM4 := Lib.hid M4
        have HB4 := Lib.hid b4
        have c3 : w4.cell? ⟨B, 3, none⟩ = some (.int .i64 u) := M4.k.hp.blk.cell 3
        have f3 : w4.frozen? ⟨B, 3, none⟩ = false := M4.k.hp.blk.frozen 3
        have hw : wrap64 (u + 1) = u + 1 := IntWalk.wrap64_in _ (by have := HF.out.2.2.1; omega)
        have HK5 := Lib.hid (M4.k.count (u + 1))
        have HB5 := Lib.hid (b4.far (p := ⟨B, 3, none⟩) (b4.ne_type M4.k.hp.blk (by decide)) (.int .i64 (u + 1)))
        clear M4 b4 hq c1
        have M5 : Mid w (w4.setCell ⟨B, 3, none⟩ (.int .i64 (u + 1))) B (some mb) v2 m (u + 1) (CM.without l k) F := HM4.out.step HK5.out ((Touch.refl _ w4).setCell ⟨B, 3, none⟩ _ (.inl (by unfold cfoot; simp))) (fun q hq => .inl hq)
        obtain ⟨w5, hw5⟩ : ∃ w5, w5 = w4.setCell ⟨B, 3, none⟩ (.int .i64 (u + 1)) := ⟨_, rfl⟩
        have HW5 := Lib.hid hw5
        go_upto_region 12 with (fail)
        rw [← HW5.out]
        rw [← hw5] at M5 HB5
        have HM5 := Lib.hid M5
        have HCOP := Lib.hid (fun W (t : Touch [] w5 W) => Calls.mono (R' := fun e1 w' => ∃ a c, e1 = .returned (.agg #[.int .i64 e.kind, .string e.name, .int .u16 e.type, .int .u16 e.cls, .slice a e.recs.length c, .int .i64 e.til, .int .i64 e.rank, .int .i64 e.epoch, .int .i64 e.src]) ∧
            w'.ownsRow W.heap.size 60 5 (.slice a e.recs.length c) e.recs.length (flat e.recs) ∧ Touch [] W w')
          (copied_any W e rv (HREC.out W ((M5.quiet t).t)) (by have := (check_name HF.out.2.1).2.1; omega)) (fun e1 w' H => by
            obtain ⟨v6, rfl, hown, t6⟩ := H
            obtain ⟨a, c, rfl⟩ := own_shape hown
            exact ⟨a, c, rfl, hown, t6⟩))
        obtain ⟨k0, k1, k2, k3, k4, k5, k6, k7, k8⟩ := entCells HB5.out
        have kb : w5.cell? ⟨B, 3, none⟩ = some (.int .i64 (u + 1)) := M5.k.hp.blk.cell 3
        clear M5 hw5 c3 f3 hw
        go_region_held3 (fun w' => w'.cell? ⟨B, 3, none⟩ = some (.int .i64 (u + 1)) ∧ w'.cell? ⟨D, 0, none⟩ = some (.int .i64 e.kind) ∧ w'.cell? ⟨D, 1, none⟩ = some (.string e.name) ∧ w'.cell? ⟨D, 2, none⟩ = some (.int .u16 e.type) ∧ w'.cell? ⟨D, 3, none⟩ = some (.int .u16 e.cls) ∧ w'.cell? ⟨D, 4, none⟩ = some rv ∧
            w'.cell? ⟨D, 5, none⟩ = some (.int .i64 e.til) ∧ w'.cell? ⟨D, 6, none⟩ = some (.int .i64 e.rank) ∧ w'.cell? ⟨D, 7, none⟩ = some (.int .i64 e.epoch) ∧ w'.cell? ⟨D, 8, none⟩ = some (.int .i64 e.src))
          (first | exact ⟨kb, k0, k1, k2, k3, k4, k5, k6, k7, k8⟩ | exact ⟨xb, x0, x1, x2, x3, x4, x5, x6, x7, x8⟩ | exact ⟨yb _, y0 _, y1 _, y2 _, y3 _, y4 _, y5 _, y6 _, y7 _, y8 _⟩)
          (first
            | (go_at_call 39
               refine (HCOP.out _ ((Touch.refl [] w5).drew_)).mono ?_
               rintro e1 w6 ⟨a6, c6, rfl, hown, T6⟩
               have T56 := ((Touch.refl [] w5).drew_).trans T6 (by simp)
               have b6 := T56.blk HB5.out (by simp)
               have M6 := HM5.out.quiet T56
               obtain ⟨x0, x1, x2, x3, x4, x5, x6, x7, x8⟩ := entCells b6
               have xb : w6.cell? ⟨B, 3, none⟩ = some (.int .i64 (u + 1)) := M6.k.hp.blk.cell 3
               have yb : ∀ o, (w6.alloc o).cell? ⟨B, 3, none⟩ = some (.int .i64 (u + 1)) := fun o => (M6.k.hp.blk.alloc o).cell 3
               have y0 : ∀ o, (w6.alloc o).cell? ⟨D, 0, none⟩ = some (.int .i64 e.kind) := fun o => (b6.alloc o).cell 0
               have y1 : ∀ o, (w6.alloc o).cell? ⟨D, 1, none⟩ = some (.string e.name) := fun o => (b6.alloc o).cell 1
               have y2 : ∀ o, (w6.alloc o).cell? ⟨D, 2, none⟩ = some (.int .u16 e.type) := fun o => (b6.alloc o).cell 2
               have y3 : ∀ o, (w6.alloc o).cell? ⟨D, 3, none⟩ = some (.int .u16 e.cls) := fun o => (b6.alloc o).cell 3
               have y4 : ∀ o, (w6.alloc o).cell? ⟨D, 4, none⟩ = some rv := fun o => (b6.alloc o).cell 4
               have y5 : ∀ o, (w6.alloc o).cell? ⟨D, 5, none⟩ = some (.int .i64 e.til) := fun o => (b6.alloc o).cell 5
               have y6 : ∀ o, (w6.alloc o).cell? ⟨D, 6, none⟩ = some (.int .i64 e.rank) := fun o => (b6.alloc o).cell 6
               have y7 : ∀ o, (w6.alloc o).cell? ⟨D, 7, none⟩ = some (.int .i64 e.epoch) := fun o => (b6.alloc o).cell 7
               have y8 : ∀ o, (w6.alloc o).cell? ⟨D, 8, none⟩ = some (.int .i64 e.src) := fun o => (b6.alloc o).cell 8))
        clear k0 k1 k2 k3 k4 k5 k6 k7 k8 x0 x1 x2 x3 x4 x5 x6 x7 x8 y0 y1 y2 y3 y4 y5 y6 y7 y8 kb xb yb
        obtain ⟨X, hX⟩ : ∃ X : It, X = ⟨w6.heap.size, e, .slice a6 e.recs.length c6, k, u + 1⟩ := ⟨_, rfl⟩
        obtain ⟨w7, hw7⟩ : ∃ w7, w7 = w6.alloc (.cells #[.int .i64 e.kind, .string e.name, .int .u16 e.type, .int .u16 e.cls, .slice a6 e.recs.length c6, .int .i64 e.til, .int .i64 e.rank, .int .i64 e.epoch, .int .i64 e.src, .string k, .int .i64 (u + 1), .int .i64 0] 65) := ⟨_, rfl⟩
        have bX : Blk w7 w6.heap.size 65 (itV X 0) := by rw [hw7, hX]; exact Blk.new _ _ _
        have T67 : Touch [] w6 w7 := by rw [hw7]; exact (Touch.refl [] w6).alloc _
        have M7 := M6.quiet T67
        have hnew : ∀ y ∈ CM.without l k, y.key ≠ X.key := fun y hy => by rw [hX]; exact ((CM.without_mem HGS.out.1 HGS.out.2 k y).1 hy).2
        have hrow7 : w7.ownsRow 0 60 5 X.rv X.e.recs.length (flat X.e.recs) := by
          rw [hX]
          exact trow_base (trow_touch hown T67 (fun k hk hm => by simp at hm)) (Nat.zero_le _)
        have hlen : (CM.without l k).length ≤ 1000000 := by
          obtain ⟨r, hr⟩ := CM.without_perm HGS.out.1 k
          have := hr.length_eq
          rw [List.length_append] at this
          have := HF.out.2.2.2
          omega
        have hXg : X.g = w6.heap.size := by rw [hX]
        have hsz : w.heap.size ≤ X.g := by rw [hXg]; exact M6.t.size
        have hok : X.key = CM.key X.e ∧ CM.check X.e = 0 ∧ EFits X.e := by rw [hX]; exact ⟨HKE.out, HF.out.2.1, HF.out.1⟩
        obtain ⟨w8, hrun, hmap8, T8⟩ := M7.k.map.put (x := X) (l' := CM.push (CM.without l k) X) hnew (CM.push_perm _ _) M7.k.keys (by rw [hX]; exact HKS.out) (by unfold maxLen; omega)
        have hrun : (Instr.mapUpdate 52 (.map (some mb)) (.string k) (.pointer (some ⟨w6.heap.size, 0, none⟩))).run Tryz.prog w7 = .ok () w8 := by rw [hX] at hrun; exact hrun
        have hmne := M7.k.map_ne rfl
        have hp8 := M7.k.hp.touch T8 (by simpa using hmne.1.symm) (fun q hq => by simpa using (hmne.2.1 q hq).symm) (fun x hx => by simpa using (hmne.2.2 x hx).symm)
        have bX8 : Blk w8 X.g 65 (itV X 0) := by
          rw [hXg]
          refine T8.blk bX ?_
          rcases M7.k.map with ⟨e2, _⟩ | ⟨mb', Dm, e2, ⟨es, clock, hh, _⟩, _⟩
          · cases e2
          · injection e2 with e2
            subst e2
            simpa using bX.ne_map hh
        have hXn : X.g ∉ (CM.without l k).map It.g := by
          intro hm
          obtain ⟨y, hy, e2⟩ := List.mem_map.1 hm
          obtain ⟨i, hi, rfl⟩ := List.mem_iff_getElem.1 hy
          have := (M6.k.hp.items i hi).lt
          omega
        have hpu := hpush_any w8 B _ v2 (CM.without l k) hp8 X 0 bX8 hXn (by omega) (by simp)
        have hpu2 := Calls.mono (R' := fun e1 w' => (∃ v, e1 = .returned v) ∧ ∃ v9, Mid w w' B (some mb) v9 m (u + 1) (CM.push (CM.without l k) X) F) hpu (fun e1 w9 H => by
          obtain ⟨h1, v9, hp9, T9, hv9⟩ := H
          exact ⟨h1, v9, M7.pushed X hnew (by rw [hXg]; exact bX) hsz hrow7 hok hlen hmap8 T8 hp9 T9 hv9⟩)
        rw [show ptr X = .pointer (some ⟨w6.heap.size, 0, none⟩) by rw [hX]; rfl] at hpu2
        have HPU := Lib.hid hpu2
        have HW7 := Lib.hid hw7
        have HX := Lib.hid (And.intro hX (And.intro hsz hlen))
        have c1 : w7.cell? ⟨B, 1, none⟩ = some (.map (some mb)) := M7.k.hp.blk.cell 1
        clear hown T6 T56 b6 M6 bX T67 M7 hnew hrow7 hlen hsz hok hmap8 T8 hmne hp8 bX8 hXn hpu hpu2 hXg hX
        go_upto_region 13 with (fail)
        rw [← HW7.out]
        clear hw7
        go_wp2_with fail
        refine HPU.out.mono ?_
        rintro e1 w9 ⟨⟨vr, rfl⟩, v9, M9⟩
        have HM9 := Lib.hid M9
        obtain ⟨L, hL⟩ : ∃ L, L = CM.push (CM.without l k) X := ⟨_, rfl⟩
        rw [← hL] at HM9 M9
        have HL := Lib.hid hL
        have c9 : w9.cell? ⟨B, 1, none⟩ = some (.map (some mb)) := M9.k.hp.blk.cell 1
        have c0 : w9.cell? ⟨B, 0, none⟩ = some (.int .i64 m) := M9.k.hp.blk.cell 0
        have hl1 := fun n => (M9.quiet (Touch.drewN [] w9 n)).k.map.len
        have hl0 := M9.k.map.len
        clear c1 hrun M9 hL
        go_upto_region 15 with (fail)
        go_cut [107] (fun s wx => s = .bool (decide (max m 1 < (L.length : Int))) ∧ ∃ n, wx = w9.drewN n)
        case first =>
          obtain ⟨ln, hln⟩ : ∃ n, n = L.length := ⟨_, rfl⟩
          rw [← hln] at hl1 hl0
          have HLN := Lib.hid hln
          clear hln
          go_quiet (fail)
          go_wp2_with fail
          all_goals
            go_meet
            exact ⟨by rw [← HLN.out]; exact congrArg Value.bool (decide_eq_decide.2 (by omega)), _, rfl⟩
        case rest =>
          obtain ⟨rfl, n9, rfl⟩ := hcut
          clear hl1 hl0 c9 c0
          obtain ⟨l3, hl3⟩ : ∃ l3, l3 = if max m 1 < (L.length : Int) then (CM.expire L.length L now).1 else L := ⟨_, rfl⟩
          have HL3 := Lib.hid hl3
          clear hl3
          go_upto_if 107 with (fail)
          go_cut [] (fun wx => ∃ v3, Mid w wx B (some mb) v3 m (u + 1) l3 F)
          case first =>
            by_cases hgt : max m 1 < (L.length : Int)
            · have hd : decide (max m 1 < (L.length : Int)) = true := decide_eq_true hgt
              have M10 := HM9.out.quiet (Touch.drewN [] w9 n9)
              have HEX := Lib.hid (Calls.mono (R' := fun e1 w' => (∃ v, e1 = .returned v) ∧ ∃ v3, Mid w w' B (some mb) v3 m (u + 1) l3 F) (expire_any (w9.drewN n9) B (some mb) v9 m (u + 1) L M10.k now) (fun e1 w' H => by
                obtain ⟨h1, v3, hk, t, hv⟩ := H
                refine ⟨⟨_, h1⟩, v3, ?_⟩
                rw [HL3.out, if_pos hgt]
                obtain ⟨r, hr, _, _⟩ := CM.expire_perm L.length L now
                exact M10.sub hk t hv (fun y hy => CM.mem_rest hr hy)))
              rw [hd]
              clear hd hgt M10
              go_wp2_with fail
              refine HEX.out.mono ?_
              rintro e1 w10 ⟨⟨vr, rfl⟩, H⟩
              have HH := Lib.hid H
              clear H
              go_wp2_with fail
              go_meet
              exact HH.out
            · have hd : decide (max m 1 < (L.length : Int)) = false := decide_eq_false hgt
              have HQ := Lib.hid (show l3 = L by rw [HL3.out, if_neg hgt])
              rw [hd]
              clear hd hgt
              go_wp2_with fail
              go_meet
              exact ⟨v9, by rw [HQ.out]; exact HM9.out.quiet (Touch.drewN [] w9 n9)⟩
          case rest =>
            obtain ⟨v3, M11⟩ := hcut
            obtain ⟨w11, rfl⟩ : ∃ w11, w11 = wc := ⟨_, rfl⟩
            have HM11 := Lib.hid M11
            have c9 : w11.cell? ⟨B, 1, none⟩ = some (.map (some mb)) := M11.k.hp.blk.cell 1
            have c0 : w11.cell? ⟨B, 0, none⟩ = some (.int .i64 m) := M11.k.hp.blk.cell 0
            have hl1 := fun n => (M11.quiet (Touch.drewN [] w11 n)).k.map.len
            have hl0 := M11.k.map.len
            clear M11
            have HEND := Lib.hid (fun (W : World) (v4 : Value) (M : Mid w W B (some mb) v4 m (u + 1) (if max m 1 < (l3.length : Int) then CM.remove l3 (CM.old l3) else l3) F) => show PutEnd w B mo v m u l e now (.returned (.bool true)) W from .inr ⟨HM.out, rfl, some mb, v4, X, by rw [HX.out.1], by rw [HX.out.1]; exact HKE.out, HX.out.2.1, by
              have : (CM.put ⟨m, u, l⟩ X now).h = (if max m 1 < (l3.length : Int) then CM.remove l3 (CM.old l3) else l3) := by
                rw [HL3.out, HL.out, HX.out.1]
                rfl
              rw [this, ← HFF.out]
              exact M⟩)
            go_upto_region 17 with (fail)
            go_cut [121] (fun s wx => s = .bool (decide (max m 1 < (l3.length : Int))) ∧ ∃ n, wx = w11.drewN n)
            case first =>
              obtain ⟨ln, hln⟩ : ∃ n, n = l3.length := ⟨_, rfl⟩
              rw [← hln] at hl1 hl0
              have HLN := Lib.hid hln
              clear hln
              go_quiet (fail)
              go_wp2_with fail
              all_goals
                go_meet
                exact ⟨by rw [← HLN.out]; exact congrArg Value.bool (decide_eq_decide.2 (by omega)), _, rfl⟩
            case rest =>
              obtain ⟨rfl, n11, rfl⟩ := hcut
              clear hl1 hl0 c9 c0
              have M12 := HM11.out.quiet (Touch.drewN [] w11 n11)
              by_cases hgt : max m 1 < (l3.length : Int)
              · have hd : decide (max m 1 < (l3.length : Int)) = true := decide_eq_true hgt
                rw [if_pos hgt] at HEND
                have hpos : 0 < l3.length := by omega
                obtain ⟨G, cap, rfl⟩ : ∃ G cap, v3 = .slice (some ⟨G, 0, none⟩) l3.length cap := by
                  rcases M12.k.hp.shape with ⟨_, e⟩ | h
                  · rw [e] at hpos; simp at hpos
                  · exact h
                have c2 : (w11.drewN n11).cell? ⟨B, 2, none⟩ = some (.slice (some ⟨G, 0, none⟩) l3.length cap) := M12.k.hp.blk.cell 2
                obtain ⟨_, hr, hs⟩ := M12.k.hp.row
                have HMF := Lib.hid (minfunc_any (w11.drewN n11) G cap l3 hr hpos (by have := M12.k.len; omega))
                have hol := CM.old_lt hpos
                have HDR := Lib.hid (fun W (t : Touch [] (w11.drewN n11) W) => Calls.mono (R' := fun e1 w' => (∃ r, e1 = .returned r) ∧ PutEnd w B mo v m u l e now (.returned (.bool true)) w') (drop_any W B (some mb) _ m (u + 1) l3 (M12.quiet t).k (CM.old l3) hol) (fun e1 w' H => by
                  obtain ⟨h1, v4, hk, t2, hv⟩ := H
                  exact ⟨h1, HEND.out w' v4 ((M12.quiet t).sub hk t2 hv (fun y hy => (CM.remove_perm l3 _ hol).subset (List.mem_cons_of_mem _ hy)))⟩))
                have hpx : ptr (l3[CM.old l3]!) = ptr (l3[CM.old l3]'hol) := by rw [getElem!_pos l3 _ hol]
                obtain ⟨g, hg⟩ : ∃ g, g = (l3[CM.old l3]'hol).g := ⟨_, rfl⟩
                have hpy : ptr (l3[CM.old l3]'hol) = .pointer (some ⟨g, 0, none⟩) := by rw [hg]; rfl
                rw [hpx, hpy] at HMF
                rw [hpy] at HDR
                obtain ⟨ln, hln⟩ : ∃ n, n = l3.length := ⟨_, rfl⟩
                rw [← hln] at HMF c2
                rw [hd]
                clear hd hgt M12 hr hs hol hpx hpy hg hpos hln
                go_wp2_with fail
                refine HMF.out.mono ?_
                rintro e1 w12 ⟨rfl, T12⟩
                have HDR2 := Lib.hid (HDR.out w12 T12)
                clear T12
                go_wp2_with fail
                refine HDR2.out.mono ?_
                rintro e1 w13 ⟨⟨vr, rfl⟩, H⟩
                have HH := Lib.hid H
                clear H
                go_wp2_with fail
                go_ret
                exact HH.out
              · have hd : decide (max m 1 < (l3.length : Int)) = false := decide_eq_false hgt
                rw [if_neg hgt] at HEND
                have HH := Lib.hid (HEND.out _ _ M12)
                rw [hd]
                clear hd hgt M12
                go_wp2_with fail
                go_ret
                exact HH.out
theorem put_any (w : World) (B : Nat) (mo : Option Nat) (v : Value) (m u : Int) (l : List It) (h : K w B mo v m u l) (e : CM.E) (rv : Value) (now : Int) (hf : EFits e) (hrec : RecsAt w rv e.recs) (hfar : ∀ g off n c, rv = .slice (some ⟨g, off, none⟩) n c → 0 < n → g ∉ cfoot B mo v l)
    (ht : 0 ≤ e.type ∧ e.type ≤ 65535) (hcl : 0 ≤ e.cls ∧ e.cls ≤ 65535) (hu : 0 ≤ u ∧ u ≤ 1099511627776) (hl : l.length ≤ 1000000) :
    Calls Tryz.prog 19 #[.pointer (some ⟨B, 0, none⟩), .agg (entV e rv), .int .i64 now] w (PutEnd w B mo v m u l e now) := by
  by_cases h1 : CM.check e = 0 ∧ now ≤ e.til
  · by_cases h2 : CM.refused l e now = false
    · exact put_main w B mo v m u l h e rv now hf hrec hfar ht hcl hu hl h1.1 h1.2 h2
    · unfold CM.refused at h2
      cases hfi : CM.find l (CM.key e) with
      | none => rw [hfi] at h2; exact absurd rfl h2
      | some x =>
        rw [hfi] at h2
        exact put_refused w B mo v m u l h e rv now hf hrec ht hcl h1.1 h1.2 x hfi (by simpa using h2)
  · exact put_bad w B mo v m u l e rv now hf hrec h1
end Go.Proofs.YtibbfihnhlgkeaaGreat

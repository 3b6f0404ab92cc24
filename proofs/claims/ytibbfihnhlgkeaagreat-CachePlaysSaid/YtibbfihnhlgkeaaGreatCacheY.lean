/- tell. -/
import Derived.Test.YtibbfihnhlgkeaaGreatCacheX
import Derived.Laws.ResultCell
namespace Go.Proofs.YtibbfihnhlgkeaaGreat
open Go.RowKit Go.Maps Go.WideMaps
open NM (Bs bs ofBs)
open CM (It C)

theorem results_pair {P : Program} {fn : Func} {p t : Tmp} {ty : TypeId} (h : fn.results = #[.cell p ty, .tmp t]) (tmps : Array Value) (w : World) (g : Nat) (tt : TypeId) (cs : Array Value) (fr : Nat × Nat) (d : TypeDesc)
    (hp : tmps.getD p undef = .pointer (some ⟨g, 0, none⟩)) (hg : w.heap[g]? = some (.cells cs tt fr))
    (hu : P.underlying ty = some d) (hd : (match d with | .struct _ | .array _ _ => true | _ => false) = true) (hi : (P.info? ty).map (·.size) = some cs.size) :
    (results fn tmps).run P w = .ok (.tuple #[.agg cs, tmps.getD t undef]) w := by
  rw [results_cell_tmp h, hp, show asAddr (.pointer (some ⟨g, 0, none⟩)) = pure ⟨g, 0, none⟩ from rfl]
  simp only [Sem.run_pure, Result.andThen_ok, run_loadVar_row w g tt ty cs fr d hg hu hd hi]
/-- an entry is used -/
def upd (l : List It) (g : Nat) (u : Int) : List It := l.map (fun y => if y.g = g then { y with used := u } else y)
theorem upd_length (l : List It) (g : Nat) (u : Int) : (upd l g u).length = l.length := by unfold upd; simp
theorem upd_at (l : List It) (g : Nat) (u : Int) (i : Nat) (hi : i < l.length) : (upd l g u)[i]'(by rw [upd_length]; exact hi) = if l[i].g = g then { l[i] with used := u } else l[i] := by unfold upd; simp
theorem upd_gs (l : List It) (g : Nat) (u : Int) : (upd l g u).map It.g = l.map It.g := by
  unfold upd
  rw [List.map_map]
  exact List.map_congr_left (fun x _ => by simp only [Function.comp]; split <;> rfl)
theorem upd_keys (l : List It) (g : Nat) (u : Int) : (upd l g u).map It.key = l.map It.key := by
  unfold upd
  rw [List.map_map]
  exact List.map_congr_left (fun x _ => by simp only [Function.comp]; split <;> rfl)
theorem upd_ptr (l : List It) (g : Nat) (u : Int) : (upd l g u).map ptr = l.map ptr := by
  unfold upd
  rw [List.map_map]
  exact List.map_congr_left (fun x _ => by simp only [Function.comp, ptr]; split <;> rfl)
theorem upd_mem {l : List It} {g : Nat} {u : Int} {y : It} (h : y ∈ upd l g u) : ∃ x ∈ l, y.g = x.g ∧ y.e = x.e ∧ y.rv = x.rv ∧ y.key = x.key := by
  unfold upd at h
  obtain ⟨x, hx, rfl⟩ := List.mem_map.1 h
  refine ⟨x, hx, ?_⟩
  split <;> exact ⟨rfl, rfl, rfl, rfl⟩
theorem upd_find (l : List It) (g : Nat) (u : Int) (k : ByteArray) : CM.find (upd l g u) k = (CM.find l k).map (fun y => if y.g = g then { y with used := u } else y) := by
  induction l with
  | nil => rfl
  | cons x t ih =>
    show CM.find ((if x.g = g then { x with used := u } else x) :: upd t g u) k = _
    rw [find_cons, find_cons, ih]
    have hk : (if x.g = g then { x with used := u } else x : It).key = x.key := by split <;> rfl
    rw [hk]
    by_cases e : x.key = k
    · rw [if_pos e, if_pos e]; rfl
    · rw [if_neg e, if_neg e]
theorem MapP.upd {w : World} {mo : Option Nat} {l : List It} (h : MapP w mo l) (g : Nat) (u : Int) : MapP w mo (upd l g u) := by
  rcases h with ⟨rfl, rfl⟩ | ⟨mb, Dm, rfl, h1, h2⟩
  · exact .inl ⟨rfl, rfl⟩
  · refine .inr ⟨mb, Dm, rfl, by rw [upd_length]; exact h1, fun k => by rw [upd_find, h2.has]; cases CM.find l k <;> rfl, fun k x z e => ?_, by rw [upd_length]; exact h2.size⟩
    rw [upd_find] at e
    obtain ⟨y, hy, rfl⟩ := Option.map_eq_some_iff.1 e
    rw [h2.at_ k y z hy]
    split <;> rfl
theorem K.use {w : World} {B : Nat} {mo : Option Nat} {v : Value} {m u : Int} {l : List It} (h : K w B mo v m u l) {x : It} (hx : x ∈ l) (u' : Int) :
    K ((w.setCell ⟨B, 3, none⟩ (.int .i64 u')).setCell ⟨x.g, 10, none⟩ (.int .i64 u')) B mo v m u' (upd l x.g u') := by
  have T : Touch [B, x.g] w ((w.setCell ⟨B, 3, none⟩ (.int .i64 u')).setCell ⟨x.g, 10, none⟩ (.int .i64 u')) := ((Touch.refl _ w).setCell ⟨B, 3, none⟩ _ (.inl (by simp))).setCell ⟨x.g, 10, none⟩ _ (.inl (by simp))
  obtain ⟨i, hi, rfl⟩ := List.mem_iff_getElem.1 hx
  have hne : B ≠ l[i].g := h.hp.blk.ne_type (h.hp.items i hi) (by decide)
  have hcf : ∀ k ∈ [B, l[i].g], k ∈ cfoot B mo v l := by
    intro k hk
    simp only [List.mem_cons, List.not_mem_nil, or_false] at hk
    unfold cfoot
    simp only [List.mem_cons, List.mem_append]
    rcases hk with rfl | rfl
    · exact .inl rfl
    · exact .inr (.inr (.inr (List.mem_map_of_mem hx)))
  refine ⟨⟨(h.hp.blk.set_ 3 (.int .i64 u')).far (p := ⟨l[i].g, 10, none⟩) hne _, rfl, ?_, ?_, by rw [upd_gs]; exact h.hp.gs⟩, ?_, by rw [upd_keys]; exact h.keys, ?_, ?_, by rw [upd_length]; exact h.len⟩
  · rw [upd_length, upd_ptr]
    refine trow_touch h.hp.own T (fun k hk hm => ?_)
    obtain ⟨cur, hb⟩ := h.hp.ownBlk hk
    simp only [List.mem_cons, List.not_mem_nil, or_false] at hm
    rcases hm with rfl | rfl
    · exact hb.ne_type h.hp.blk (by decide) rfl
    · exact hb.ne_type (h.hp.items i hi) (by decide) rfl
  · intro j hj
    have hj2 : j < l.length := by rwa [upd_length] at hj
    rw [upd_at l _ _ j hj2]
    by_cases e : j = i
    · subst e
      rw [if_pos rfl]
      exact ((h.hp.items j hj2).far (p := ⟨B, 3, none⟩) hne.symm _).set_ 10 (.int .i64 u')
    · have hn : l[j].g ≠ l[i].g := fun e2 => by
        have h1 : (l.map It.g)[j]'(by simpa using hj2) = (l.map It.g)[i]'(by simpa using hi) := by simp [e2]
        exact e ((List.getElem_inj h.hp.gs).1 h1)
      rw [if_neg hn]
      have hb := h.hp.items j hj2
      refine T.blk hb ?_
      simp only [List.mem_cons, List.not_mem_nil, or_false, not_or]
      exact ⟨hb.ne_type h.hp.blk (by decide), hn⟩
  · refine MapP.upd (h.map.touch T (fun k hk hm => ?_)) _ _
    have h9 := h.map_ne hk
    simp only [List.mem_cons, List.not_mem_nil, or_false] at hm
    rcases hm with rfl | rfl
    · exact h9.1 rfl
    · exact h9.2.2 _ hx rfl
  · intro y hy
    obtain ⟨z, hz, e1, e2, e3, e4⟩ := upd_mem hy
    rw [e2, e3]
    exact trow_touch (h.recs z hz) T (fun k hk hm => h.own_ne hz hk (hcf k hm))
  · intro y hy
    obtain ⟨z, hz, e1, e2, e3, e4⟩ := upd_mem hy
    rw [e2, e4]
    exact h.ok z hz
/-- a block of another type may turn -/
theorem K.touch1 {w w' : World} {B : Nat} {mo : Option Nat} {v : Value} {m u : Int} {l : List It} (h : K w B mo v m u l) {D : Nat} {t : TypeId} {cs : Array Value} (hb : Blk w D t cs) (h1 : t ≠ 56) (h2 : t ≠ 66) (h3 : t ≠ 65) (h4 : t ≠ 60) (T : Touch [D] w w') : K w' B mo v m u l := by
  refine h.touch T (fun k hk => ?_)
  simp only [List.mem_cons, List.not_mem_nil, or_false] at hk
  subst hk
  refine ⟨h.ne_blk hb h1 h2 h3, fun x hx e => ?_⟩
  rcases (h.recs x hx).2 with ⟨e2, _⟩ | ⟨g, cap, cur, e2, _, hg, _⟩
  · rw [e2] at e; cases e
  · rw [e2] at e
    injection e with e
    subst e
    exact hb.ne_type (t' := 60) (cs' := cur) hg h4 rfl
def TellEnd (w : World) (B : Nat) (mo : Option Nat) (v : Value) (m u : Int) (l : List It) (o : Option It) (e : Ending) (w' : World) : Prop :=
  (o = none ∧ e = .returned (.tuple #[.agg zeroE, .bool false]) ∧ K w' B mo v m u l ∧ Touch (cfoot B mo v l) w w') ∨
  ∃ x rv, o = some x ∧ e = .returned (.tuple #[.agg (entV x.e rv), .bool true]) ∧ w'.ownsRow w.heap.size 60 5 rv x.e.recs.length (flat x.e.recs) ∧ K w' B mo v m (u + 1) (upd l x.g (u + 1)) ∧ Touch (cfoot B mo v l) w w'
set_option maxRecDepth 10000 in
set_option maxHeartbeats 1000000 in
theorem tell_any (w : World) (B : Nat) (mo : Option Nat) (v : Value) (m u : Int) (l : List It) (h : K w B mo v m u l) (k : ByteArray) (hk : k.size ≤ 1099511627776) (now : Int) (hu : 0 ≤ u ∧ u ≤ 1099511627776) :
    Calls Tryz.prog 26 #[.pointer (some ⟨B, 0, none⟩), .string k, .int .i64 now] w (TellEnd w B mo v m u l ((CM.find l k).filter (fun x => decide (now ≤ x.e.til)))) := by
  have T0 : Touch [] w (w.alloc (.cells zeroE 31)) := (Touch.refl [] w).alloc _
  have hB0 := Blk.new w 31 zeroE
  have hK0 := h.quiet T0
  have hlook := hK0.map.look k (by unfold maxLen; omega)
  have c1 : w.cell? ⟨B, 1, none⟩ = some (.map mo) := h.hp.blk.cell 1
  have c1' : (w.alloc (.cells zeroE 31)).cell? ⟨B, 1, none⟩ = some (.map mo) := hK0.hp.blk.cell 1
  have HH := Lib.hid h
  have HK0 := Lib.hid hK0
  have HB0 := Lib.hid hB0
  have HT0 := Lib.hid (T0.mono (S' := cfoot B mo v l) (by simp))
  obtain ⟨w0, hw0⟩ : ∃ w0, w0 = w.alloc (.cells zeroE 31) := ⟨_, rfl⟩
  obtain ⟨D, hD⟩ : ∃ D, D = w.heap.size := ⟨_, rfl⟩
  have HD := Lib.hid hD
  rw [← hD] at HB0
  cases hf : CM.find l k with
  | none =>
    have hit0 : hit l k = .pointer none := by unfold hit; rw [hf]
    rw [hit0, hf] at hlook
    have hlook : (Instr.lookup 52 (.map mo) (.string k) true).run Tryz.prog w0 = .ok (.tuple #[.pointer none, .bool false]) w0 := by rw [hw0]; exact hlook
    have HW0 := Lib.hid hw0
    rw [← hw0] at c1' HK0 HB0 HT0
    clear hf hit0 h T0 hB0 hK0 c1 hk hu hD hw0
    go_enter Tryz.func26, Tryz.ntmps26
    go_upto_region 3 with (fail)
    rw [← HW0.out, ← HD.out]
    go_wp2_with (first
      | (refine wpList_store_rowTo rfl 31 (.tmp 6) (.tmp 12) rfl rfl D zeroE rfl rfl 31 zeroE HB0.out (by kernel_rfl) rfl (entV_cells ⟨0, ⟨#[]⟩, 0, 0, [], 0, 0, 0, 0⟩ none 0 0) ?_)
      | (refine wpList_store_rowTo rfl 31 (.tmp 6) (.tmp 33) rfl rfl D zeroE rfl rfl 31 zeroE HB0.out (by kernel_rfl) rfl (entV_cells ⟨0, ⟨#[]⟩, 0, 0, [], 0, 0, 0, 0⟩ none 0 0) ?_))
    refine bodyPost_ret (results_pair rfl _ _ D 31 zeroE (0, 0) _ rfl (HB0.out.row _) Tryz.underlying31 rfl (by kernel_rfl)) rfl ?_
    left
    have t : Touch [D] w0 (w0.setRow D zeroE) := (Touch.refl _ w0).row _ _ (.inl (by simp))
    exact ⟨rfl, rfl, HK0.out.touch1 HB0.out (by decide) (by decide) (by decide) (by decide) t, HT0.out.trans t (fun k hk => .inr (by simp at hk; rw [hk, HD.out]; exact Nat.le_refl _))⟩
  | some x =>
    obtain ⟨hx, hkx⟩ := CM.find_some hf
    have hit0 : hit l k = ptr x := by unfold hit; rw [hf]
    rw [hit0, hf] at hlook
    obtain ⟨g, hg⟩ : ∃ g, g = x.g := ⟨_, rfl⟩
    have hpx : ptr x = .pointer (some ⟨g, 0, none⟩) := by unfold ptr; rw [hg]
    rw [hpx] at hlook
    have hlook : (Instr.lookup 52 (.map mo) (.string k) true).run Tryz.prog w0 = .ok (.tuple #[.pointer (some ⟨g, 0, none⟩), .bool true]) w0 := by rw [hw0]; exact hlook
    have HW0 := Lib.hid hw0
    rw [← hw0] at c1' HK0 HB0 HT0
    obtain ⟨i, hi, hxi⟩ := List.mem_iff_getElem.1 hx
    have hbx : Blk w0 g 65 (itV x i) := by rw [hg, ← hxi]; exact HK0.out.hp.items i hi
    have c5 : w0.cell? ⟨g, 5, none⟩ = some (.int .i64 x.e.til) := hbx.cell 5
    have HBX := Lib.hid hbx
    have HX := Lib.hid (And.intro hx hg)
    obtain ⟨til, htil⟩ : ∃ t, t = x.e.til := ⟨_, rfl⟩
    rw [← htil] at c5
    by_cases hlt : til < now
    · have HF := Lib.hid (show (some x).filter (fun x => decide (now ≤ x.e.til)) = none by rw [htil] at hlt; simp; omega)
      rw [HF.out]
      clear hf hit0 h T0 hB0 hK0 c1 hk hu hD hw0 hpx hg htil hxi hbx hi hx hkx
      go_enter Tryz.func26, Tryz.ntmps26
      go_upto_region 3 with (fail)
      rw [← HW0.out, ← HD.out]
      go_wp2_with (first
        | (refine wpList_store_rowTo rfl 31 (.tmp 6) (.tmp 12) rfl rfl D zeroE rfl rfl 31 zeroE HB0.out (by kernel_rfl) rfl (entV_cells ⟨0, ⟨#[]⟩, 0, 0, [], 0, 0, 0, 0⟩ none 0 0) ?_)
        | (refine wpList_store_rowTo rfl 31 (.tmp 6) (.tmp 33) rfl rfl D zeroE rfl rfl 31 zeroE HB0.out (by kernel_rfl) rfl (entV_cells ⟨0, ⟨#[]⟩, 0, 0, [], 0, 0, 0, 0⟩ none 0 0) ?_))
      refine bodyPost_ret (results_pair rfl _ _ D 31 zeroE (0, 0) _ rfl (HB0.out.row _) Tryz.underlying31 rfl (by kernel_rfl)) rfl ?_
      left
      have t : Touch [D] w0 (w0.setRow D zeroE) := (Touch.refl _ w0).row _ _ (.inl (by simp))
      exact ⟨rfl, rfl, HK0.out.touch1 HB0.out (by decide) (by decide) (by decide) (by decide) t, HT0.out.trans t (fun k hk => .inr (by simp at hk; rw [hk, HD.out]; exact Nat.le_refl _))⟩
    · have HF := Lib.hid (show (some x).filter (fun x => decide (now ≤ x.e.til)) = some x by rw [htil] at hlt; simp [Option.filter]; omega)
      rw [HF.out]
      have hge : now ≤ til := by omega
      have c3 : w0.cell? ⟨B, 3, none⟩ = some (.int .i64 u) := HK0.out.hp.blk.cell 3
      have f3 : w0.frozen? ⟨B, 3, none⟩ = false := HK0.out.hp.blk.frozen 3
      have hBg : B ≠ g := HK0.out.hp.blk.ne_type hbx (by decide)
      have hbx1 := hbx.far (p := ⟨B, 3, none⟩) (fun e => hBg e.symm) (.int .i64 (u + 1))
      have c4 : (w0.setCell ⟨B, 3, none⟩ (.int .i64 (u + 1))).cell? ⟨B, 3, none⟩ = some (.int .i64 (u + 1)) := (HK0.out.hp.blk.set_ 3 (.int .i64 (u + 1))).cell 3
      have c10 : (w0.setCell ⟨B, 3, none⟩ (.int .i64 (u + 1))).cell? ⟨g, 10, none⟩ = some (.int .i64 x.used) := hbx1.cell 10
      have f10 : w0.frozen? ⟨g, 10, none⟩ = false := hbx.frozen 10
      have hbx2 := hbx1.set_ 10 (.int .i64 (u + 1))
      have hB2 : Blk ((w0.setCell ⟨B, 3, none⟩ (.int .i64 (u + 1))).setCell ⟨g, 10, none⟩ (.int .i64 (u + 1))) D 31 zeroE := (HB0.out.far (p := ⟨B, 3, none⟩) (HB0.out.ne_type HK0.out.hp.blk (by decide)) _).far (p := ⟨g, 10, none⟩) (HB0.out.ne_type hbx (by decide)) _
      have hK2 := HK0.out.use hx (u + 1)
      rw [← hg] at hK2
      have T2 : Touch (cfoot B mo v l) w0 ((w0.setCell ⟨B, 3, none⟩ (.int .i64 (u + 1))).setCell ⟨g, 10, none⟩ (.int .i64 (u + 1))) := ((Touch.refl _ w0).setCell ⟨B, 3, none⟩ _ (.inl (by unfold cfoot; simp))).setCell ⟨g, 10, none⟩ _ (.inl (by unfold cfoot; simp only [List.mem_cons, List.mem_append]; exact .inr (.inr (.inr (by rw [hg]; exact List.mem_map_of_mem hx)))))
      have hrec := HK0.out.recs x hx
      have hok := HK0.out.ok x hx
      have hrec2 : ((w0.setCell ⟨B, 3, none⟩ (.int .i64 (u + 1))).setCell ⟨g, 10, none⟩ (.int .i64 (u + 1))).ownsRow 0 60 5 x.rv x.e.recs.length (flat x.e.recs) := trow_touch hrec T2 (fun k hk => HK0.out.own_ne hx hk)
      have hcop := copied_any _ x.e x.rv (RecsAt.of_row hrec2).1 (by have := (check_name hok.2.1).2.1; omega)
      have hrange : ((w0.setCell ⟨B, 3, none⟩ (.int .i64 (u + 1))).setCell ⟨g, 10, none⟩ (.int .i64 (u + 1))).rangeAt g 0 [.int .i64 x.e.kind, .string x.e.name, .int .u16 x.e.type, .int .u16 x.e.cls, x.rv, .int .i64 x.e.til, .int .i64 x.e.rank, .int .i64 x.e.epoch, .int .i64 x.e.src] := by
        intro j q hj
        rw [Nat.zero_add, hbx2.cell j]
        match j, hj with
        | 0, hj => exact hj
        | 1, hj => exact hj
        | 2, hj => exact hj
        | 3, hj => exact hj
        | 4, hj => exact hj
        | 5, hj => exact hj
        | 6, hj => exact hj
        | 7, hj => exact hj
        | 8, hj => exact hj
      have HALL := Lib.hid (And.intro hB2 (And.intro hK2 (And.intro T2 (And.intro hcop hrange))))
      have hw : IntKind.i64.wrap (u + 1) = u + 1 := IntWalk.i64_in _ (by omega)
      have hw2 : wrap64 (u + 1) = u + 1 := IntWalk.wrap64_in _ (by omega)
      clear hf hit0 h T0 hB0 hK0 c1 hk hu hD hw0 hpx htil hxi hbx hi hkx hBg hbx1 hbx2 hB2 hK2 T2 hrec hok hrec2 hcop hrange hlt hx hg
      go_enter Tryz.func26, Tryz.ntmps26
      go_upto_region 3 with (fail)
      rw [← HW0.out, ← HD.out]
      go_wp2_with (refine wpList_load_mid rfl 31 (.tmp 50) rfl g 0 rfl _ _ HALL.out.2.2.2.2 Tryz.underlying31 rfl (by kernel_rfl) ?_)
      refine HALL.out.2.2.2.1.mono ?_
      rintro e w3 ⟨v', rfl, hown, T3⟩
      obtain ⟨a, c, rfl⟩ := own_shape hown
      have hB3 := T3.blk HALL.out.1 (by simp)
      have hK3 := HALL.out.2.1.quiet T3
      have HR3 := Lib.hid (And.intro hown (And.intro T3 (And.intro hB3 hK3)))
      clear hown T3 hB3 hK3 hlook c1' c5 c3 f3 c4 c10 f10
      go_wp2_with (refine wpList_store_rowTo rfl 31 (.tmp 6) (.tmp 52) rfl rfl D (entV x.e (.slice a x.e.recs.length c)) rfl rfl 31 zeroE HR3.out.2.2.1 (by kernel_rfl) rfl (entV_cells _ _ _ _) ?_)
      refine bodyPost_ret (results_pair rfl _ _ D 31 (entV x.e (.slice a x.e.recs.length c)) (0, 0) _ rfl (HR3.out.2.2.1.row _) Tryz.underlying31 rfl (by kernel_rfl)) rfl ?_
      right
      obtain ⟨hown, T3, hB3, hK3⟩ := HR3.out
      have t : Touch [D] w3 (w3.setRow D (entV x.e (.slice a x.e.recs.length c))) := (Touch.refl _ w3).row _ _ (.inl (by simp))
      have hs0 : w0.heap.size = w.heap.size + 1 := by rw [HW0.out]; simp
      refine ⟨x, _, rfl, rfl, ?_, ?_, ?_⟩
      · refine trow_touch (trow_base hown (by simp; omega)) t (fun k hk hm => ?_)
        have h9 := (hown.lt _ hk).1
        simp only [List.mem_cons, List.not_mem_nil, or_false] at hm
        have hD := HD.out
        simp at h9
        omega
      · rw [← HX.out.2]
        exact hK3.touch1 hB3 (by decide) (by decide) (by decide) (by decide) t
      · refine ((HT0.out.trans HALL.out.2.2.1 (fun k hk => .inl hk)).trans T3 (by simp)).trans t (fun k hk => .inr ?_)
        simp only [List.mem_cons, List.not_mem_nil, or_false] at hk
        rw [hk, HD.out]
        exact Nat.le_refl _
end Go.Proofs.YtibbfihnhlgkeaaGreat

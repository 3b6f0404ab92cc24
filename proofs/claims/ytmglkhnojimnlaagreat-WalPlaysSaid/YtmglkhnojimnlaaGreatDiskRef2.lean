/- Package fingerpostref09: put, drop. -/
import Derived.Test.YtmglkhnojimnlaaGreatDiskRef
namespace Go.Proofs.YtmglkhnojimnlaaGreat
open Go.RowKit Go.Maps Go.WideMaps
open DM (N F FL Sorted)

theorem infoF : (Tryz.prog.info? 68).map (fun i => (i.zero, i.size, i.bytes)) = some (some (.agg #[.string ByteArray.empty, .string ByteArray.empty, .int .i64 0]), 3, 40) := by kernel_rfl
theorem cellsL_one : ∀ (l : FL), ∀ u ∈ cellsL l, u.oneCell' = true
  | [], u, h => by cases h
  | p :: l, u, h => by
    simp only [cellsL, cellsF, List.mem_append, List.mem_cons, List.not_mem_nil, or_false] at h
    rcases h with (rfl | rfl | rfl) | h
    · rfl
    · rfl
    · rfl
    · exact cellsL_one l u h
theorem app_any {w : World} {ops : Array Oper} {rest : List Oper} {o : Oper} {a : Act} {Q : Exit → Act → World → Prop} (hgd : o.guard = none) (s x : Operand)
    (ho : o.op = .call { callee := .builtin .append, args := #[s, x], argTypes := #[39, 39] })
    (B : Nat) (v : Value) (m : FL) (k : Nat) (hk : m.length = k) (hs : a.eval s = v) (hown : w.ownsRow B 68 3 v k (cellsL m))
    (ao : Option Addr) (l : FL) (n c : Nat) (hn : l.length = n) (hx : a.eval x = .slice ao n c) (hnone : ao = none → n = 0 ∧ c = 0)
    (hcells : ∀ ad, ao = some ad → ∀ j u, (cellsL l)[j]? = some u → w.cell? (ad.add j) = some u) (hlen : k + n ≤ 1099511627776) (hB : B ≤ w.heap.size)
    (h : ∀ v' w', w'.ownsRow B 68 3 v' (k + n) (cellsL (m ++ l)) → Touch v.ownBlock.toList w w' → wpList Tryz.prog ops Q rest (a.put o.dst v') w') : wpList Tryz.prog ops Q (o :: rest) a w := by
  obtain ⟨i0, hi, hz0, hz1, hz2⟩ := info_parts infoF
  cases ao with
  | none =>
    obtain ⟨rfl, rfl⟩ := hnone rfl
    obtain rfl := List.length_eq_zero_iff.1 hn
    refine wpList_append_own_none hgd s x _ ho B _ i0 3 Tryz.underlying39 hi v k (cellsL m) hs hown hx ?_
    exact h v w (by simpa using hown) (Touch.refl _ _)
  | some ad =>
    refine wpList_append_own _ hgd s x _ ho B _ i0 _ 3 40 Tryz.underlying39 hi hz0 hz1 hz2 rfl (by decide) v k (cellsL m) hs hown ad n c (cellsL l) hx (by rw [cellsL_length, hn]) (hcells ad rfl) (cellsL_one l) (by unfold maxLen; omega) (by omega) hB ?_
    intro v' w' h1 h2 _
    refine h v' w' (by rw [cellsL_append]; exact h1) (Touch.of_grown h2)
theorem ownsRow_base {w : World} {B B' size n : Nat} {e : TypeId} {v : Value} {xs : List Value} (h : w.ownsRow B e size v n xs) (hB : B' ≤ B) : w.ownsRow B' e size v n xs := by
  obtain ⟨hl, h⟩ := h
  refine ⟨hl, ?_⟩
  rcases h with h | ⟨g, cap, cur, rfl, h1, h2⟩
  · exact .inl h
  · exact .inr ⟨g, cap, cur, rfl, Nat.le_trans hB h1, h2⟩
theorem ownsRow_shape {w : World} {B size n : Nat} {e : TypeId} {v : Value} {xs : List Value} (h : w.ownsRow B e size v n xs) : ∃ a c, v = .slice a n c := by
  rcases h.2 with ⟨rfl, rfl⟩ | ⟨g, cap, cur, rfl, _⟩
  · exact ⟨_, _, rfl⟩
  · exact ⟨_, _, rfl⟩
/-- cells of a part of a row -/
theorem part_cells {w : World} {g : Nat} {l : FL} (hc : ∀ (i : Nat) (hi : i < l.length), w.cell? ⟨g, i * 3, none⟩ = some (.string (str l[i].1)) ∧ w.cell? ⟨g, i * 3 + 1, none⟩ = some (.string l[i].2.1) ∧ w.cell? ⟨g, i * 3 + 2, none⟩ = some (.int .i64 (l[i].2.2 : Int))) :
    ∀ j u, (cellsL l)[j]? = some u → w.cell? ⟨g, j, none⟩ = some u := by
  intro j u h
  have hj : j < l.length * 3 := by rw [← cellsL_length]; exact (List.getElem?_eq_some_iff.1 h).1
  obtain ⟨i, r, hr, rfl⟩ : ∃ i r, r < 3 ∧ j = i * 3 + r := ⟨j / 3, j % 3, by omega, by omega⟩
  have hi : i < l.length := by omega
  rw [cellsL_at l i hi r hr] at h
  obtain ⟨h0, h1, h2⟩ := hc i hi
  match r, hr with
  | 0, _ => simp only [cellsF, List.getElem?_cons_zero, Option.some.injEq] at h; subst h; exact h0
  | 1, _ => simp [cellsF] at h; subst h; exact h1
  | 2, _ => simp [cellsF] at h; subst h; exact h2
theorem part_take {w : World} {g : Nat} {l : FL} (hc : ∀ j u, (cellsL l)[j]? = some u → w.cell? ⟨g, j, none⟩ = some u) (i : Nat) : ∀ j u, (cellsL (l.take i))[j]? = some u → w.cell? ⟨g, j, none⟩ = some u := by
  intro j u h
  rw [cellsL_take, List.getElem?_take] at h
  split at h
  · exact hc j u h
  · cases h
theorem part_drop {w : World} {g : Nat} {l : FL} (hc : ∀ j u, (cellsL l)[j]? = some u → w.cell? ⟨g, j, none⟩ = some u) (i : Nat) : ∀ j u, (cellsL (l.drop i))[j]? = some u → w.cell? ⟨g, i * 3 + j, none⟩ = some u := by
  intro j u h
  rw [cellsL_drop, List.getElem?_drop] at h
  exact hc _ u h

theorem refs_own {w w' : World} {B b n m : Nat} {v v' : Value} {d : DM.D} {l : FL} (h : RefAt w B b v n d) {W : World} (hT : Touch [] w W) (hv : w'.ownsRow B 68 3 v' l.length (cellsL l)) (ht : Touch [] W w') (hfit : Fit l m) (hm : n ≤ m) (hv' : ∀ g, v'.ownBlock = some g → w.heap.size ≤ g) :
    RefAt (w'.setCell ⟨b, 1, none⟩ v') B b v' m { d with fl := l } ∧ Touch [b] w (w'.setCell ⟨b, 1, none⟩ v') := by
  obtain ⟨armed, left, h1, h2⟩ := h.blk
  have hb : Blk w' b 41 #[.int .i64 d.room, v, .bool d.off, .bool armed, .int .i64 left, .int .i64 d.done] := ht.blk (hT.blk h1 (by simp)) (by simp)
  have hlt := h.lt
  refine ⟨⟨⟨armed, left, hb.set_ 1 v', h2.mono hm⟩, h.room, ⟨h.done.1, Int.le_trans h.done.2 (by omega)⟩, ?_, hfit⟩, ((hT.trans ht (by simp)).mono (by simp)).setCell _ _ (.inl (by simp))⟩
  refine ownsRow_touch hv ((Touch.refl [b] w').setCell _ _ (.inl (by simp))) (fun g hg => ?_)
  have := hv' g hg
  simp only [List.mem_singleton]
  omega

set_option maxRecDepth 10000 in
set_option maxHeartbeats 1600000 in
theorem rput_any (w : World) (B b n : Nat) (v : Value) (d : DM.D) (h : RefAt w B b v n d) (hn : n < 1099511627775) (hB : B ≤ w.heap.size) (k : ByteArray) (f : F) (hfit : Fit (DM.put d.fl (nm k) f) (n + 1)) :
    Calls Tryz.prog 89 #[.pointer (some ⟨b, 0, none⟩), .agg #[.string k, .string f.1, .int .i64 (f.2 : Int)]] w fun e w' => e = .returned (.tuple #[]) ∧ ∃ v', RefAt w' B b v' (n + 1) { d with fl := DM.put d.fl (nm k) f } ∧ Touch [b] w w' := by
  have TX : Touch [] w (w.alloc (.cells #[.string k, .string f.1, .int .i64 (f.2 : Int)] 68)) := (Touch.refl [] w).alloc _
  have hX : Blk (w.alloc (.cells #[.string k, .string f.1, .int .i64 (f.2 : Int)] 68)) w.heap.size 68 #[.string k, .string f.1, .int .i64 (f.2 : Int)] := Blk.new _ _ _
  have hX' : (w.alloc (.cells #[.string k, .string f.1, .int .i64 (f.2 : Int)] 68)).heap.size = w.heap.size + 1 := by simp
  have hfi := rfind_any _ B b n v d (h.touch TX (by simp) (by simp)) (by omega) k
  have HF := Lib.hid hfi
  have HX := Lib.hid hX'
  have H := Lib.hid h
  have HFIT := Lib.hid hfit
  have HB := Lib.hid hB
  have x0 := hX.cell 0
  have hput := DM.put_idx h.fit.sorted (nm k) f
  have HP := Lib.hid hput
  have hlen := h.fit.len
  have hixl := DM.idx_le d.fl (nm k)
  have hat := DM.at_idx h.fit.sorted (nm k)
  clear hfi hX' hfit hput h
  obtain ⟨is, his⟩ : ∃ is, is = (DM.look d.fl (nm k)).isSome := ⟨_, rfl⟩
  obtain ⟨ix, hix⟩ : ∃ ix, ix = DM.idx d.fl (nm k) := ⟨_, rfl⟩
  have hisl : is = true → ix < d.fl.length := fun h => by
    rw [his] at h
    obtain ⟨h1, _⟩ := hat h
    rw [hix]; exact h1
  rw [← his, ← hix] at HF HP
  rw [← hix] at hixl
  clear his hix hat
  go_enter Tryz.func89, Tryz.ntmps89
  go_wp2_with fail
  refine HF.out.mono ?_
  rintro e W0 ⟨rfl, jj, hW0⟩
  have T0 : Touch [] w W0 := by rw [hW0]; exact TX.drewN_ _
  have hX0 : Blk W0 w.heap.size 68 #[.string k, .string f.1, .int .i64 (f.2 : Int)] := by rw [hW0]; exact hX.drewN _
  have hS0 : W0.heap.size = w.heap.size + 1 := by rw [hW0]; exact HX.out
  have R0 := H.out.touch T0 (by simp) (by simp)
  clear hW0 TX hX x0 HF
  obtain ⟨a, cap, hv, hcap, hmax, h0, hop⟩ := R0.open
  subst hv
  have c1 := R0.c1
  have hown0 := World.ownsRow_nil W0 W0.heap.size 68 3
  have hlt := H.out.lt
  have hlen2 : (d.fl.length : Int) ≤ 1099511627776 := by omega
  have hcap2 : (cap : Int) ≤ 9223372036854775807 := by unfold maxLen at hmax; omega
  have hfl : d.fl.length < 1099511627775 := by omega
  have HFL := Lib.hid hfl
  clear hfl hlen hn hmax
  have hsrc : ∀ (w' : World) (ad : Addr) (i : Nat), Touch [] W0 w' → a = some ad → ad = ⟨ad.block, 0, none⟩ ∧ (∀ j u, (cellsL (d.fl.take i))[j]? = some u → w'.cell? ⟨ad.block, j, none⟩ = some u) ∧ (∀ j u, (cellsL (d.fl.drop i))[j]? = some u → w'.cell? ⟨ad.block, i * 3 + j, none⟩ = some u) := by
    intro w' ad i ht ha
    obtain ⟨g, o, sp⟩ := ad
    obtain ⟨rfl, rfl, _, _, _, hcl⟩ := hop g o sp ha
    have hpc := part_cells hcl
    exact ⟨rfl, fun j u hj => ht.cell (part_take hpc i j u hj) (by simp), fun j u hj => ht.cell (part_drop hpc i j u hj) (by simp)⟩
  have SRC := Lib.hid hsrc
  clear hop hsrc
  have hx0 := hX0.cell 0
  have key : ∀ i' : Nat, i' = ix + (if is = true then 1 else 0) → i' ≤ d.fl.length ∧ (d.fl.drop i').length = d.fl.length - i' := by
    intro i' hi
    cases is
    · simp at hi; subst hi; exact ⟨hixl, by simp⟩
    · have := hisl rfl
      simp at hi; subst hi; exact ⟨by omega, by simp⟩
  have hXc : ∀ w', Touch [] W0 w' → w'.cell? ⟨w.heap.size, 0, none⟩ = some (.string k) ∧ w'.cell? ⟨w.heap.size, 1, none⟩ = some (.string f.1) ∧ w'.cell? ⟨w.heap.size, 2, none⟩ = some (.int .i64 (f.2 : Int)) := fun w' ht =>
    ⟨(ht.blk hX0 (by simp)).cell 0, (ht.blk hX0 (by simp)).cell 1, (ht.blk hX0 (by simp)).cell 2⟩
  have XC := Lib.hid hXc
  have hone : ∀ w' : World, ∀ j u, (cellsL [(nm k, f)])[j]? = some u → (w'.alloc (.cells #[.string k, .string f.1, .int .i64 (f.2 : Int)] 68)).cell? ((⟨w'.heap.size, 0, none⟩ : Addr).add j) = some u := by
    intro w' j u hj
    rw [add_none, Nat.zero_add, (Blk.new w' 68 #[.string k, .string f.1, .int .i64 (f.2 : Int)]).cell j]
    simp only [cellsL, cellsF, str_nm, List.append_nil] at hj
    simpa using hj
  have ONE := Lib.hid hone
  have KEY := Lib.hid key
  have hends : ∀ (v3 : Value) (w3 : World) (i' : Nat), i' = ix + (if is = true then 1 else 0) → w3.ownsRow W0.heap.size 68 3 v3 (ix + 1 + (d.fl.length - i')) (cellsL (d.fl.take ix ++ [(nm k, f)] ++ d.fl.drop i')) → Touch [] W0 w3 →
      ∃ v', RefAt (w3.setCell ⟨b, 1, none⟩ v3) B b v' (n + 1) { d with fl := DM.put d.fl (nm k) f } ∧ Touch [b] w (w3.setCell ⟨b, 1, none⟩ v3) := by
    intro v3 w3 i' hi ho ht
    refine ⟨v3, refs_own H.out T0 ?_ ht HFIT.out (by omega) (fun g hg => ?_)⟩
    · have e : DM.put d.fl (nm k) f = d.fl.take ix ++ [(nm k, f)] ++ d.fl.drop i' := by rw [HP.out, hi]; simp
      rw [e]
      have hl : (d.fl.take ix ++ [(nm k, f)] ++ d.fl.drop i').length = ix + 1 + (d.fl.length - i') := by
        have := (KEY.out i' hi).2
        simp only [List.length_append, List.length_take, List.length_cons, List.length_nil, this]
        omega
      rw [hl]
      exact ownsRow_base ho (by have := HB.out; omega)
    · have := (ho.lt g hg).1
      omega
  have ENDS := Lib.hid hends
  have hb1 : ∀ w', Touch [] W0 w' → w'.cell? ⟨b, 1, none⟩ = some (.slice a d.fl.length cap) ∧ w'.frozen? ⟨b, 1, none⟩ = false := fun w' ht => by
    have r := R0.touch ht (by simp) (by simp)
    obtain ⟨_, _, hbb, _⟩ := r.blk
    exact ⟨r.c1, hbb.frozen 1⟩
  have HB1 := Lib.hid hb1
  clear hX0 hXc hone key hends hb1 hx0 HP HFIT HB H T0 R0
  cases a with
  | none =>
    obtain ⟨e1, e2⟩ := h0 rfl
    subst e2
    have hisf : is = false := by
      cases is with
      | false => rfl
      | true => have := hisl rfl; omega
    subst hisf
    obtain rfl : ix = 0 := by omega
    have hfl0 : d.fl = [] := List.length_eq_zero_iff.1 e1
    have e1' : (d.fl.length : Int) = 0 := by omega
    have c1' := c1
    rw [e1] at c1'
    clear hisl h0 c1
    go_wp2_with (first
      | (at_builtin; refine app_any rfl (.tmp 14) (.tmp 20) rfl W0.heap.size _ [] 0 rfl rfl hown0 none [] 0 0 rfl rfl (fun _ => ⟨rfl, rfl⟩) (fun ad had => by cases had) (by omega) (Nat.le_refl _) ?_; intro v1 w1 hown1 ht1; simp only [Nat.zero_add, List.nil_append] at hown1; have t1 : Touch [] W0 w1 := ht1; obtain ⟨y0, y1, y2⟩ := XC.out w1 t1; have hs1 := t1.size; clear ht1)
      | (at_builtin; refine app_any rfl (.tmp 22) (.tmp 24) rfl W0.heap.size v1 [] 0 rfl rfl (hown1.alloc _) (some ⟨w1.heap.size, 0, none⟩) [(nm k, f)] 1 1 rfl rfl (fun h => by simp at h) (fun ad had => by
          obtain rfl : (⟨w1.heap.size, 0, none⟩ : Addr) = ad := by simpa using had
          exact ONE.out w1) (by omega) (by simp; omega) ?_; intro v2 w2 hown2 ht2; have t2 : Touch [] W0 w2 := (t1.alloc _).trans ht2 (fun q hq => .inr (hown1.lt q (by simpa using hq)).1); obtain ⟨c1', f1'⟩ := HB1.out w2 t2; rw [e1] at c1'; have hs2 := t2.size; clear ht2 hown1 y0 y1 y2)
      | (at_builtin; refine app_any rfl (.tmp 30) (.tmp 36) rfl W0.heap.size v2 ([] ++ [(nm k, f)]) 1 rfl rfl hown2 none [] 0 0 rfl rfl (fun _ => ⟨rfl, rfl⟩) (fun ad had => by cases had) (by omega) (by omega) ?_; intro v3 w3 hown3 ht3; have t3 : Touch [] W0 w3 := t2.trans ht3 (fun q hq => .inr (hown2.lt q (by simpa using hq)).1); obtain ⟨c1'', f1''⟩ := HB1.out w3 t3; obtain ⟨a3, c3, rfl⟩ := ownsRow_shape hown3; clear ht3 hown2))
    go_end0
    exact ⟨rfl, ENDS.out _ _ 0 (by simp) (by rw [hfl0]; simpa using hown3) t3⟩
  | some ad =>
    obtain ⟨ead, _⟩ := SRC.out W0 ad 0 (Touch.refl _ _) rfl
    obtain ⟨g, hg⟩ : ∃ g, g = ad.block := ⟨_, rfl⟩
    rw [← hg] at ead
    subst ead
    clear h0 hg
    have hs3 : ∀ w', Touch [] W0 w' → ∀ i' ad, ((⟨g, 0, none⟩ : Addr) = ad ∧ d.fl.length ≤ i' ∨ (⟨g, i' * 3, none⟩ : Addr) = ad) → ∀ j u, (cellsL (d.fl.drop i'))[j]? = some u → w'.cell? (ad.add j) = some u := by
      intro w' ht i' ad had j u hj
      rcases had with ⟨_, h2⟩ | rfl
      · rw [List.drop_eq_nil_of_le h2] at hj
        cases hj
      · rw [add_none]
        exact (SRC.out w' _ i' ht rfl).2.2 j u hj
    have S3 := Lib.hid hs3
    clear hs3
    by_cases hc0 : cap = ix + (if is = true then 1 else 0)
    all_goals
      cases is
      all_goals
        simp at hc0
        have hkey := (KEY.out _ rfl).1
        simp at hkey
        go_wp2_with (first
          | (at_builtin; refine app_any rfl (.tmp 14) (.tmp 20) rfl W0.heap.size _ [] 0 rfl rfl hown0 _ (d.fl.take ix) ix _ (by simp; omega) rfl (fun h => by simp at h) (fun ad had => by
              obtain rfl : (⟨g, 0, none⟩ : Addr) = ad := by simpa using had
              exact fun j u hj => by rw [add_none, Nat.zero_add]; exact (SRC.out W0 _ ix (Touch.refl _ _) rfl).2.1 j u hj) (by have := HFL.out; omega) (Nat.le_refl _) ?_; intro v1 w1 hown1 ht1; simp only [Nat.zero_add, List.nil_append] at hown1; have t1 : Touch [] W0 w1 := ht1; obtain ⟨y0, y1, y2⟩ := XC.out w1 t1; have hs1 := t1.size; clear ht1)
          | (at_builtin; refine app_any rfl (.tmp 22) (.tmp 24) rfl W0.heap.size v1 (d.fl.take ix) ix (by simp; omega) rfl (hown1.alloc _) (some ⟨w1.heap.size, 0, none⟩) [(nm k, f)] 1 1 rfl rfl (fun h => by simp at h) (fun ad had => by
              obtain rfl : (⟨w1.heap.size, 0, none⟩ : Addr) = ad := by simpa using had
              exact ONE.out w1) (by have := HFL.out; omega) (by simp; omega) ?_; intro v2 w2 hown2 ht2; have t2 : Touch [] W0 w2 := (t1.alloc _).trans ht2 (fun q hq => .inr (hown1.lt q (by simpa using hq)).1); obtain ⟨c1', f1'⟩ := HB1.out w2 t2; have hs2 := t2.size; clear ht2 hown1 y0 y1 y2)
          | (at_builtin; refine app_any rfl (.tmp 30) (.tmp 36) rfl W0.heap.size v2 (d.fl.take ix ++ [(nm k, f)]) (ix + 1) (by simp; omega) rfl hown2 _ (d.fl.drop ix) _ _ (by simp) rfl (fun h => by simp at h) (fun ad had => S3.out w2 t2 ix ad (by first | (left; exact ⟨by simpa using had, by omega⟩) | (right; simpa using had))) (by have := HFL.out; omega) (by omega) ?_; intro v3 w3 hown3 ht3; have t3 : Touch [] W0 w3 := t2.trans ht3 (fun q hq => .inr (hown2.lt q (by simpa using hq)).1); obtain ⟨c1'', f1''⟩ := HB1.out w3 t3; obtain ⟨a3, c3, rfl⟩ := ownsRow_shape hown3; clear ht3 hown2)
          | (at_builtin; refine app_any rfl (.tmp 30) (.tmp 36) rfl W0.heap.size v2 (d.fl.take ix ++ [(nm k, f)]) (ix + 1) (by simp; omega) rfl hown2 _ (d.fl.drop (ix + 1)) _ _ (by simp) rfl (fun h => by simp at h) (fun ad had => S3.out w2 t2 (ix + 1) ad (by first | (left; exact ⟨by simpa using had, by omega⟩) | (right; simpa using had))) (by have := HFL.out; omega) (by omega) ?_; intro v3 w3 hown3 ht3; have t3 : Touch [] W0 w3 := t2.trans ht3 (fun q hq => .inr (hown2.lt q (by simpa using hq)).1); obtain ⟨c1'', f1''⟩ := HB1.out w3 t3; obtain ⟨a3, c3, rfl⟩ := ownsRow_shape hown3; clear ht3 hown2))
        go_end0
        first
          | exact ⟨rfl, ENDS.out _ _ ix (by simp) hown3 t3⟩
          | exact ⟨rfl, ENDS.out _ _ (ix + 1) (by simp) (by rw [show ix + 1 + (d.fl.length - (ix + 1)) = d.fl.length from by omega] at hown3 ⊢; exact hown3) t3⟩

set_option maxRecDepth 10000 in
set_option maxHeartbeats 1600000 in
theorem rdrop_any (w : World) (B b n : Nat) (v : Value) (d : DM.D) (h : RefAt w B b v n d) (hn : n < 1099511627775) (hB : B ≤ w.heap.size) (k : ByteArray) (his0 : (DM.look d.fl (nm k)).isSome = true) :
    Calls Tryz.prog 87 #[.pointer (some ⟨b, 0, none⟩), .string k] w fun e w' => e = .returned (.tuple #[]) ∧ ∃ v', RefAt w' B b v' n { d with fl := DM.del d.fl (nm k) } ∧ Touch [b] w w' ∧ ∀ g, v'.ownBlock = some g → w.heap.size ≤ g := by
  have hfi := rfind_any _ B b n v d h (by omega) k
  rw [his0] at hfi
  have HF := Lib.hid hfi
  have H := Lib.hid h
  have HFIT := Lib.hid (h.fit.del (nm k))
  have HB := Lib.hid hB
  have hdel := DM.del_idx h.fit.sorted (nm k) his0
  have HP := Lib.hid hdel
  have hlen := h.fit.len
  have hat := (DM.at_idx h.fit.sorted (nm k) his0).1
  clear hfi hdel h his0 hB
  obtain ⟨ix, hix⟩ : ∃ ix, ix = DM.idx d.fl (nm k) := ⟨_, rfl⟩
  rw [← hix] at HF HP hat
  clear hix
  go_enter Tryz.func87, Tryz.ntmps87
  go_wp2_with fail
  refine HF.out.mono ?_
  rintro e W0 ⟨rfl, jj, hW0⟩
  have T0 : Touch [] w W0 := by rw [hW0]; exact Touch.drewN [] w jj
  have hS0 : W0.heap.size = w.heap.size := by rw [hW0]; rfl
  have R0 := H.out.touch T0 (by simp) (by simp)
  clear hW0 HF
  obtain ⟨a, cap, hv, hcap, hmax, h0, hop⟩ := R0.open
  subst hv
  have c1 := R0.c1
  have hown0 := World.ownsRow_nil W0 W0.heap.size 68 3
  have hlt := H.out.lt
  have hlen2 : (d.fl.length : Int) ≤ 1099511627776 := by omega
  have hcap2 : (cap : Int) ≤ 9223372036854775807 := by unfold maxLen at hmax; omega
  have hfl : d.fl.length < 1099511627775 := by omega
  have HFL := Lib.hid hfl
  clear hfl hlen hn hmax
  have hsrc : ∀ (w' : World) (ad : Addr) (i : Nat), Touch [] W0 w' → a = some ad → ad = ⟨ad.block, 0, none⟩ ∧ (∀ j u, (cellsL (d.fl.take i))[j]? = some u → w'.cell? ⟨ad.block, j, none⟩ = some u) ∧ (∀ j u, (cellsL (d.fl.drop i))[j]? = some u → w'.cell? ⟨ad.block, i * 3 + j, none⟩ = some u) := by
    intro w' ad i ht ha
    obtain ⟨g, o, sp⟩ := ad
    obtain ⟨rfl, rfl, _, _, _, hcl⟩ := hop g o sp ha
    have hpc := part_cells hcl
    exact ⟨rfl, fun j u hj => ht.cell (part_take hpc i j u hj) (by simp), fun j u hj => ht.cell (part_drop hpc i j u hj) (by simp)⟩
  have SRC := Lib.hid hsrc
  clear hop hsrc
  have hends : ∀ (v3 : Value) (w3 : World), w3.ownsRow W0.heap.size 68 3 v3 (ix + (d.fl.length - (ix + 1))) (cellsL (d.fl.take ix ++ d.fl.drop (ix + 1))) → Touch [] W0 w3 →
      ∃ v', RefAt (w3.setCell ⟨b, 1, none⟩ v3) B b v' n { d with fl := DM.del d.fl (nm k) } ∧ Touch [b] w (w3.setCell ⟨b, 1, none⟩ v3) ∧ ∀ g, v'.ownBlock = some g → w.heap.size ≤ g := by
    intro v3 w3 ho ht
    have hg9 : ∀ g, v3.ownBlock = some g → w.heap.size ≤ g := fun g hg => by have := (ho.lt g hg).1; omega
    have := refs_own (l := DM.del d.fl (nm k)) H.out T0 ?_ ht HFIT.out (Nat.le_refl _) hg9
    · exact ⟨v3, this.1, this.2, hg9⟩
    · rw [HP.out]
      have hl : (d.fl.take ix ++ d.fl.drop (ix + 1)).length = ix + (d.fl.length - (ix + 1)) := by
        simp only [List.length_append, List.length_take, List.length_drop]
        omega
      rw [hl]
      exact ownsRow_base ho (by have := HB.out; omega)
  have ENDS := Lib.hid hends
  have hb1 : ∀ w', Touch [] W0 w' → w'.cell? ⟨b, 1, none⟩ = some (.slice a d.fl.length cap) ∧ w'.frozen? ⟨b, 1, none⟩ = false := fun w' ht => by
    have r := R0.touch ht (by simp) (by simp)
    obtain ⟨_, _, hbb, _⟩ := r.blk
    exact ⟨r.c1, hbb.frozen 1⟩
  have HB1 := Lib.hid hb1
  clear hends hb1 HP HFIT HB H T0 R0
  cases a with
  | none => have := (h0 rfl).1; omega
  | some ad =>
    obtain ⟨ead, _⟩ := SRC.out W0 ad 0 (Touch.refl _ _) rfl
    obtain ⟨g, hg⟩ : ∃ g, g = ad.block := ⟨_, rfl⟩
    rw [← hg] at ead
    subst ead
    clear h0 hg
    have hs3 : ∀ w', Touch [] W0 w' → ∀ i' ad, ((⟨g, 0, none⟩ : Addr) = ad ∧ d.fl.length ≤ i' ∨ (⟨g, i' * 3, none⟩ : Addr) = ad) → ∀ j u, (cellsL (d.fl.drop i'))[j]? = some u → w'.cell? (ad.add j) = some u := by
      intro w' ht i' ad had j u hj
      rcases had with ⟨_, h2⟩ | rfl
      · rw [List.drop_eq_nil_of_le h2] at hj
        cases hj
      · rw [add_none]
        exact (SRC.out w' _ i' ht rfl).2.2 j u hj
    have S3 := Lib.hid hs3
    clear hs3
    by_cases hc0 : cap = ix + 1
    all_goals
      go_wp2_with (first
        | (at_builtin; refine app_any rfl (.tmp 14) (.tmp 20) rfl W0.heap.size _ [] 0 rfl rfl hown0 _ (d.fl.take ix) ix _ (by simp; omega) rfl (fun h => by simp at h) (fun ad had => by
            obtain rfl : (⟨g, 0, none⟩ : Addr) = ad := by simpa using had
            exact fun j u hj => by rw [add_none, Nat.zero_add]; exact (SRC.out W0 _ ix (Touch.refl _ _) rfl).2.1 j u hj) (by have := HFL.out; omega) (Nat.le_refl _) ?_; intro v2 w2 hown2 ht2; simp only [Nat.zero_add, List.nil_append] at hown2; have t2 : Touch [] W0 w2 := ht2; obtain ⟨c1', f1'⟩ := HB1.out w2 t2; have hs2 := t2.size; clear ht2)
        | (at_builtin; refine app_any rfl (.tmp 23) (.tmp 30) rfl W0.heap.size v2 (d.fl.take ix) ix (by simp; omega) rfl hown2 _ (d.fl.drop (ix + 1)) _ _ (by simp) rfl (fun h => by simp at h) (fun ad had => S3.out w2 t2 (ix + 1) ad (by first | (left; exact ⟨by simpa using had, by omega⟩) | (right; simpa using had))) (by have := HFL.out; omega) (by omega) ?_; intro v3 w3 hown3 ht3; have t3 : Touch [] W0 w3 := t2.trans ht3 (fun q hq => .inr (hown2.lt q (by simpa using hq)).1); obtain ⟨c1'', f1''⟩ := HB1.out w3 t3; obtain ⟨a3, c3, rfl⟩ := ownsRow_shape hown3; clear ht3 hown2))
      go_end0
      exact ⟨rfl, ENDS.out _ _ hown3 t3⟩
end Go.Proofs.YtmglkhnojimnlaaGreat

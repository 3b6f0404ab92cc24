/- Package disk's functions: what each does to a disk in memory. -/
import Derived.Test.YtmglkhnojimnlaaGreatChecked
import Derived.Test.YtmglkhnojimnlaaGreatMem
import Derived.Test.YtmglkhnojimnlaaGreatDiskM
import Derived.StringKeys
namespace Go.Proofs.YtmglkhnojimnlaaGreat
open Go.RowKit Go.Maps Go.WideMaps
open DM (N F FL Sorted)

/-- how a file reads -/
def RF : Value → Option (DataW Unit × List MemPlace)
  | .agg ⟨[.string s, .int .i64 n]⟩ => some (.agg [.lit (.string s.data.toList), .lit (.int .i64 n)], [])
  | _ => none
def fileV (f : F) : Value := .agg #[.string f.1, .int .i64 (f.2 : Int)]
def fileD (f : F) : DataW Unit := .agg [.lit (.string f.1.data.toList), .lit (.int .i64 (f.2 : Int))]
theorem RF_mk (f : F) : RF (fileV f) = some (fileD f, []) := rfl
theorem bytes_inj {a b : ByteArray} (h : a.data.toList = b.data.toList) : a = b := by
  obtain ⟨⟨a⟩⟩ := a
  obtain ⟨⟨b⟩⟩ := b
  simp at h
  rw [h]
theorem RF_inv {v : Value} {f : F} {ps : List MemPlace} (h : RF v = some (fileD f, ps)) : v = fileV f := by
  unfold RF at h
  split at h
  · simp only [fileD, Option.some.injEq, Prod.mk.injEq, DataW.agg.injEq, List.cons.injEq, DataW.lit.injEq, Lit.string.injEq, Lit.int.injEq] at h
    obtain ⟨⟨h1, ⟨_, h2⟩, _⟩, _⟩ := h
    rw [fileV, bytes_inj h1, h2]
  · cases h

theorem zeroF (w : World) : (zeroValue 66).run Tryz.prog w = .ok (fileV (⟨#[]⟩, 0)) w := by kernel_rfl
theorem kstr : Keyed Tryz.prog 9 := string_keyed Tryz.underlying9

/-- the name of a string -/
def nm (s : ByteArray) : N := s.data.toList
theorem nm_size (s : ByteArray) : (nm s).length = s.size := by unfold nm; rw [Array.length_toList]; rfl

structure ViewF (Dm : DataW Unit) (l : FL) : Prop where
  has : ∀ k, Maps.has Dm (.string k) = (DM.look l k).isSome
  at_ : ∀ k f z, DM.look l k = some f → Dm.atKey (.string k) z = fileD f

def MapF (w : World) (mo : Option Nat) (n : Nat) (l : FL) : Prop :=
  (mo = none ∧ l = []) ∨ ∃ mb Dm, mo = some mb ∧ w.ownsMap Tryz.prog 9 RF mb n Dm ∧ ViewF Dm l

theorem MapF.look {w : World} {mo : Option Nat} {n : Nat} {l : FL} (h : MapF w mo n l) (s : ByteArray) (hs : s.size ≤ maxLen) :
    (Instr.lookup 53 (.map mo) (.string s) true).run Tryz.prog w = .ok (.tuple #[fileV (DM.getF l (nm s)), .bool (DM.look l (nm s)).isSome]) w := by
  rcases h with ⟨rfl, rfl⟩ | ⟨mb, Dm, rfl, hown, hv⟩
  · rw [Maps.look_nil true kstr Tryz.underlying53 (zeroF w) (keyOf_string_mk Tryz.underlying9 hs)]
    simp [DM.getF, DM.look]
  · obtain ⟨v, ps, hrun, hR⟩ := hown.look_ok kstr Tryz.underlying53 (zeroF w) (RF_mk _) (keyOf_string_mk Tryz.underlying9 hs)
    rw [hrun]
    change RF v = some (Dm.atKey (.string (nm s)) (fileD (⟨#[]⟩, 0)), ps) at hR
    rw [show Maps.has Dm (.string s.data.toList) = (DM.look l (nm s)).isSome from hv.has (nm s)]
    cases hf : DM.look l (nm s) with
    | none =>
      have := atKey_of_not_has (D := Dm) (k := .string (nm s)) (by rw [hv.has, hf]; rfl) (fileD (⟨#[]⟩, 0))
      rw [this] at hR
      rw [RF_inv hR]
      simp [DM.getF, hf]
    | some f =>
      have := hv.at_ (nm s) f (fileD (⟨#[]⟩, 0)) hf
      rw [this] at hR
      rw [RF_inv hR]
      simp [DM.getF, hf]

theorem MapF.look1 {w : World} {mo : Option Nat} {n : Nat} {l : FL} (h : MapF w mo n l) (s : ByteArray) (hs : s.size ≤ maxLen) :
    (Instr.lookup 53 (.map mo) (.string s) false).run Tryz.prog w = .ok (fileV (DM.getF l (nm s))) w := by
  rcases h with ⟨rfl, rfl⟩ | ⟨mb, Dm, rfl, hown, hv⟩
  · rw [Maps.look_nil false kstr Tryz.underlying53 (zeroF w) (keyOf_string_mk Tryz.underlying9 hs)]
    simp [DM.getF, DM.look]
  · obtain ⟨v, ps, hrun, hR⟩ := hown.lookup kstr Tryz.underlying53 (zeroF w) (RF_mk _) (keyOf_string_mk Tryz.underlying9 hs)
    rw [hrun]
    change RF v = some (Dm.atKey (.string (nm s)) (fileD (⟨#[]⟩, 0)), ps) at hR
    cases hf : DM.look l (nm s) with
    | none =>
      have := atKey_of_not_has (D := Dm) (k := .string (nm s)) (by rw [hv.has, hf]; rfl) (fileD (⟨#[]⟩, 0))
      rw [this] at hR
      rw [RF_inv hR]
      simp [DM.getF, hf]
    | some f =>
      have := hv.at_ (nm s) f (fileD (⟨#[]⟩, 0)) hf
      rw [this] at hR
      rw [RF_inv hR]
      simp [DM.getF, hf]

theorem ViewF.put {Dm : DataW Unit} {l : FL} (h : ViewF Dm l) (hm : IsMap Dm) (hs : Sorted l) (k : N) (f : F) : ViewF (Dm.put (.string k) (fileD f)) (DM.put l k f) := by
  have hkl : WideAt.IsKeyLit (.string k) := trivial
  refine ⟨fun j => ?_, fun j u z hj => ?_⟩
  · rw [DM.look_put l k j f hs]
    by_cases e : k = j
    · subst e; rw [has_put_same hm hkl, if_pos rfl]; rfl
    · rw [has_put_other (by simpa using fun h => e h.symm), h.has, if_neg e]
  · rw [DM.look_put l k j f hs] at hj
    by_cases e : k = j
    · subst e; rw [if_pos rfl] at hj; cases hj; rw [atKey_put_same hm hkl]
    · rw [if_neg e] at hj; rw [atKey_put_other (by simpa using fun h => e h.symm)]; exact h.at_ j u z hj
theorem ViewF.del {Dm : DataW Unit} {l : FL} (h : ViewF Dm l) (hs : Sorted l) (k : N) : ViewF (Dm.del (.string k)) (DM.del l k) := by
  refine ⟨fun j => ?_, fun j u z hj => ?_⟩
  · rw [DM.look_del l k j hs]
    by_cases e : k = j
    · subst e; rw [has_del_same, if_pos rfl]; rfl
    · rw [has_del_other (by simpa using fun h => e h.symm), h.has, if_neg e]
  · rw [DM.look_del l k j hs] at hj
    by_cases e : k = j
    · subst e; rw [if_pos rfl] at hj; cases hj
    · rw [if_neg e] at hj; rw [atKey_del_other (by simpa using fun h => e h.symm)]; exact h.at_ j u z hj
theorem ViewF.empty : ViewF (.map []) [] := ⟨fun k => by simp [Maps.has, DM.look], fun k f z h => by simp [DM.look] at h⟩

/-- what a disk's files must be -/
structure Fit (l : FL) (n : Nat) : Prop where
  sorted : Sorted l
  len : l.length ≤ n
  small : DM.used l ≤ 1099511627776
  each : ∀ p ∈ l, p.2.2 ≤ p.2.1.size ∧ p.1.length ≤ 40

structure DiskAt (w : World) (b : Nat) (mo : Option Nat) (n : Nat) (d : DM.D) : Prop where
  blk : Blk w b 55 #[.int .i64 d.room, .map mo, .bool d.off, .int .i64 d.left, .int .i64 d.done]
  room : 0 ≤ d.room ∧ d.room ≤ 9223372036854775807
  left : 0 ≤ d.left ∧ d.left ≤ 4611686018427387905
  done : 0 ≤ d.done ∧ d.done ≤ n
  map : MapF w mo n d.fl
  fit : Fit d.fl n

section
variable {w w' : World} {b : Nat} {mo : Option Nat} {n : Nat} {d : DM.D} {S : List Nat}
theorem DiskAt.touch (h : DiskAt w b mo n d) (ht : Touch S w w') (hb : b ∉ S) (hm : ∀ m, mo = some m → m ∉ S) : DiskAt w' b mo n d := by
  refine ⟨ht.blk h.blk hb, h.room, h.left, h.done, ?_, h.fit⟩
  rcases h.map with h1 | ⟨mb, Dm, e, ⟨es, clock, hh, hr⟩, hv⟩
  · exact .inl h1
  · exact .inr ⟨mb, Dm, e, ⟨es, clock, ht.heap hh (hm mb e), hr⟩, hv⟩
theorem DiskAt.drewN (h : DiskAt w b mo n d) (j : Nat) : DiskAt (w.drewN j) b mo n d := h.touch (Touch.drewN [] w j) (by simp) (by simp)
theorem DiskAt.lt_map {m : Nat} (h : DiskAt w b mo n d) (hm : mo = some m) : m < w.heap.size := by
  rcases h.map with ⟨e, _⟩ | ⟨mb, Dm, e, ⟨es, clock, hh, hr⟩, hv⟩
  · rw [e] at hm; cases hm
  · rw [e] at hm; cases hm; exact lt_of_heap hh
theorem DiskAt.ne_map {m : Nat} (h : DiskAt w b mo n d) (hm : mo = some m) : b ≠ m := by
  rcases h.map with ⟨e, _⟩ | ⟨mb, Dm, e, ⟨es, clock, hh, hr⟩, hv⟩
  · rw [e] at hm; cases hm
  · rw [e] at hm; cases hm; exact h.blk.ne_map hh
theorem DiskAt.c0 (h : DiskAt w b mo n d) : w.cell? ⟨b, 0, none⟩ = some (.int .i64 d.room) := h.blk.cell 0
theorem DiskAt.c1 (h : DiskAt w b mo n d) : w.cell? ⟨b, 1, none⟩ = some (.map mo) := h.blk.cell 1
theorem DiskAt.c2 (h : DiskAt w b mo n d) : w.cell? ⟨b, 2, none⟩ = some (.bool d.off) := h.blk.cell 2
theorem DiskAt.c3 (h : DiskAt w b mo n d) : w.cell? ⟨b, 3, none⟩ = some (.int .i64 d.left) := h.blk.cell 3
theorem DiskAt.c4 (h : DiskAt w b mo n d) : w.cell? ⟨b, 4, none⟩ = some (.int .i64 d.done) := h.blk.cell 4
end

/-- what a call may turn of a disk, and where its map lies behind it -/
def DTouch (b : Nat) (mo mo' : Option Nat) (w w' : World) : Prop := Touch (b :: mo.toList) w w' ∧ ∀ m, mo' = some m → mo = some m ∨ w.heap.size ≤ m

theorem Touch.disk {w w' : World} {b : Nat} {mo : Option Nat} {B : Nat} (_h : Touch (b :: mo.toList) w w') (hb : B ≤ b) (hm : ∀ m, mo = some m → B ≤ m) : ∀ k ∈ b :: mo.toList, k ∈ ([] : List Nat) ∨ B ≤ k := by
  intro k hk
  simp at hk
  rcases hk with rfl | hk
  · exact .inr hb
  · exact .inr (hm k hk)

theorem new_any (r : Int) (hr : (Lit.int .i64 r).wf = true) (w : World) :
    Calls Tryz.prog 5 #[.int .i64 r] w fun e w' => e = .returned (.pointer (some ⟨w.heap.size, 0, none⟩)) ∧ DiskAt w' w.heap.size none 0 (DM.new r) ∧ Touch [] w w' := by
  have hb := (wf64_le hr).2
  have hd : ∀ x, 0 ≤ x → x ≤ 9223372036854775807 → DiskAt (w.alloc (.cells #[.int .i64 x, .map none, .bool false, .int .i64 0, .int .i64 0] 55)) w.heap.size none 0 ⟨x, [], false, 0, 0⟩ := fun x h0 h1 =>
    ⟨Blk.new w _ _, ⟨h0, h1⟩, ⟨by simp, by simp⟩, ⟨by simp, by simp⟩, .inl ⟨rfl, rfl⟩, ⟨Sorted.nil, by simp, by simp [DM.used], by simp⟩⟩
  by_cases h0 : r < 0
  · have e : DM.new r = ⟨0, [], false, 0, 0⟩ := by unfold DM.new; congr 1; omega
    rw [e]
    have H := Lib.hid hd
    clear hd e
    go_enter Tryz.func5, Tryz.ntmps5
    go_wp2
    go_ret
    exact ⟨rfl, H.out 0 (by omega) (by omega), (Touch.refl _ _).alloc _⟩
  · have e : DM.new r = ⟨r, [], false, 0, 0⟩ := by unfold DM.new; congr 1; omega
    rw [e]
    have H := Lib.hid hd
    clear hd e
    go_enter Tryz.func5, Tryz.ntmps5
    go_wp2
    go_ret
    exact ⟨rfl, H.out r (by omega) (by omega), (Touch.refl _ _).alloc _⟩

/-- the disk's own block has turned, its files have not -/
theorem DiskAt.own {w w' : World} {b : Nat} {mo : Option Nat} {n m : Nat} {d d' : DM.D} (h : DiskAt w b mo n d) (ht : Touch [b] w w')
    (hb : Blk w' b 55 #[.int .i64 d'.room, .map mo, .bool d'.off, .int .i64 d'.left, .int .i64 d'.done]) (hr : 0 ≤ d'.room ∧ d'.room ≤ 9223372036854775807) (hl : 0 ≤ d'.left ∧ d'.left ≤ 4611686018427387905)
    (hd : 0 ≤ d'.done ∧ d'.done ≤ m) (hf : d'.fl = d.fl) (hn : n ≤ m) : DiskAt w' b mo m d' := by
  refine ⟨hb, hr, hl, hd, ?_, ?_⟩
  · rw [hf]
    rcases h.map with h1 | ⟨mb, Dm, e, ⟨es, clock, hh, hfit, hsz, hD⟩, hv⟩
    · exact .inl h1
    · exact .inr ⟨mb, Dm, e, ⟨es, clock, ht.heap hh (by have := h.ne_map e; simp; omega), hfit, by omega, hD⟩, hv⟩
  · rw [hf]; exact ⟨h.fit.sorted, by have := h.fit.len; omega, h.fit.small, h.fit.each⟩

theorem step_any (w : World) (b : Nat) (mo : Option Nat) (n : Nat) (d : DM.D) (h : DiskAt w b mo n d) (hn : n < 1099511627776) :
    Calls Tryz.prog 98 #[.pointer (some ⟨b, 0, none⟩)] w fun e w' => e = .returned (.int .i64 (DM.step d).1) ∧ DiskAt w' b mo (n + 1) (DM.step d).2 ∧ Touch [b] w w' := by
  have c2 := h.c2
  have c3 := h.c3
  have c4 := h.c4
  have f2 := h.blk.frozen 2
  have f3 := h.blk.frozen 3
  have f4 := h.blk.frozen 4
  obtain ⟨l0, l1⟩ := h.left
  obtain ⟨d0, d1⟩ := h.done
  by_cases e1 : d.left = 1
  · have hs : DM.step d = (14, { d with off := true }) := by unfold DM.step; rw [if_pos e1]
    rw [hs]
    rw [e1] at c3
    have HS := Lib.hid e1
    clear hs e1
    go_enter Tryz.func98, Tryz.ntmps98
    go_wp2
    go_ret
    have ht : Touch [b] w (w.setCell ⟨b, 2, none⟩ (.bool true)) := (Touch.refl _ _).setCell _ _ (.inl (by simp))
    exact ⟨rfl, h.own ht (h.blk.set_ 2 _) h.room h.left ⟨d0, by simp; omega⟩ rfl (by omega), ht⟩
  · have hs : DM.step d = (0, { d with left := max (d.left - 1) 0, done := d.done + 1 }) := by unfold DM.step; rw [if_neg e1]
    rw [hs]
    have e1' : (d.left == 1) = false := by simpa using e1
    clear hs
    by_cases e0 : d.left = 0
    · rw [e0] at c3 e1'
      have em : max (d.left - 1) 0 = 0 := by omega
      rw [em]
      have H0 := Lib.hid e0
      clear e0 em e1 l0 l1 e1'
      go_enter Tryz.func98, Tryz.ntmps98
      go_wp2
      go_ret
      have ht : Touch [b] w ((w.setCell ⟨b, 3, none⟩ (.int .i64 0)).setCell ⟨b, 4, none⟩ (.int .i64 (d.done + 1))) := ((Touch.refl _ _).setCell _ _ (.inl (by simp))).setCell _ _ (.inl (by simp))
      exact ⟨rfl, h.own ht ((h.blk.set_ 3 _).set_ 4 _) h.room ⟨by simp, by simp⟩ ⟨by simp; omega, by simp; omega⟩ rfl (by omega), ht⟩
    · have em : max (d.left - 1) 0 = d.left - 1 := by omega
      rw [em]
      have l2 : 1 < d.left := by omega
      clear em e0 e1
      go_enter Tryz.func98, Tryz.ntmps98
      go_wp2
      go_ret
      have ht : Touch [b] w ((w.setCell ⟨b, 3, none⟩ (.int .i64 (d.left - 1))).setCell ⟨b, 4, none⟩ (.int .i64 (d.done + 1))) := ((Touch.refl _ _).setCell _ _ (.inl (by simp))).setCell _ _ (.inl (by simp))
      exact ⟨rfl, h.own ht ((h.blk.set_ 3 _).set_ 4 _) h.room ⟨by simp; omega, by simp; omega⟩ ⟨by simp; omega, by simp; omega⟩ rfl (by omega), ht⟩

/-- the files behind a set -/
theorem Fit.put {l : FL} {n : Nat} (h : Fit l n) (k : N) (f : F) (hk : k.length ≤ 40) (hf : f.2 ≤ f.1.size) (hu : DM.used (DM.put l k f) ≤ 1099511627776) : Fit (DM.put l k f) (n + 1) :=
  ⟨DM.sorted_put l k f h.sorted, by have := DM.length_put l k f; have := h.len; omega, hu, fun p hp => by
    rcases DM.mem_put l k f p hp with rfl | hp
    · exact ⟨hf, hk⟩
    · exact h.each p hp⟩
theorem Fit.del {l : FL} {n : Nat} (h : Fit l n) (k : N) : Fit (DM.del l k) n :=
  ⟨DM.sorted_del l k h.sorted, by have := DM.length_del l k; have := h.len; omega, by have := DM.used_del l k h.sorted; have := h.small; omega, fun p hp => h.each p (DM.mem_del l k p hp)⟩

set_option maxRecDepth 10000 in
set_option maxHeartbeats 400000 in
theorem set_some (w : World) (b mb n : Nat) (d : DM.D) (h : DiskAt w b (some mb) n d) (hn : n < 1099511627776) (s : ByteArray) (hs : s.size ≤ 40) (f : F) (hf : f.2 ≤ f.1.size) (hu : DM.used (DM.put d.fl (nm s) f) ≤ 1099511627776) :
    Calls Tryz.prog 79 #[.pointer (some ⟨b, 0, none⟩), .string s, fileV f] w fun e w' => e = .returned (.tuple #[]) ∧ DiskAt w' b (some mb) (n + 1) { d with fl := DM.put d.fl (nm s) f } ∧ Touch [mb] w w' := by
  have c1 := h.c1
  have hblt := h.blk.lt
  have hne := h.ne_map rfl
  have hml := h.lt_map rfl
  have hq : ∀ w, (binOp .eql 53 (.map (some mb)) (.map none)).run Tryz.prog w = .ok (.bool false) w := fun w => by kernel_rfl
  obtain ⟨Dm, hown, hv⟩ : ∃ Dm, w.ownsMap Tryz.prog 9 RF mb n Dm ∧ ViewF Dm d.fl := by
    rcases h.map with ⟨h, _⟩ | ⟨mb', D, e, h1, h2⟩
    · cases h
    · cases e; exact ⟨D, h1, h2⟩
  have hl : fileV f = .agg #[.string f.1, .int .i64 (f.2 : Int)] := rfl
  rw [hl]
  have hkey : keyOf Tryz.prog 9 (.string s) = some (.string (nm s)) := keyOf_string_mk Tryz.underlying9 (by unfold maxLen; omega)
  have HK := Lib.hid hkey
  have HN := Lib.hid hn
  have HU := Lib.hid hu
  clear hl hkey hn hu
  go_enter Tryz.func79, Tryz.ntmps79
  go_wp2
  have hB : Blk (w.alloc (.cells #[.string f.1, .int .i64 (f.2 : Int)] 66)) w.heap.size 66 #[.string f.1, .int .i64 (f.2 : Int)] := Blk.new w _ _
  have hb1 := h.blk.alloc (.cells #[.string f.1, .int .i64 (f.2 : Int)] 66)
  have ht1 : Touch [] w (w.alloc (.cells #[.string f.1, .int .i64 (f.2 : Int)] 66)) := (Touch.refl [] w).alloc _
  have hown1 := hown.alloc (.cells #[.string f.1, .int .i64 (f.2 : Int)] 66)
  generalize w.alloc (.cells #[.string f.1, .int .i64 (f.2 : Int)] 66) = w1 at hB hb1 ht1 hown1 ⊢
  clear c1
  have c1 : w1.cell? ⟨b, 1, none⟩ = some (.map (some mb)) := hb1.cell 1
  have x0 := hB.cell 0
  have x1 := hB.cell 1
  go_still_tail 6, (by kernel_rfl)
  change wpList _ _ _ _ _ w1.drew
  obtain ⟨w2, hw2⟩ : ∃ w2, w1.drew = w2 := ⟨_, rfl⟩
  rw [hw2]
  have hown2 : w2.ownsMap Tryz.prog 9 RF mb n Dm := hw2 ▸ hown1
  have H2 := Lib.hid hw2
  clear hw2 hq c1 x0 x1
  have hRF : RF (.agg #[.string f.1, .int .i64 (f.2 : Int)]) = some (fileD f, []) := RF_mk f
  have HR := Lib.hid hRF
  clear hRF
  go_wp2_with (at_mapUpdate; refine wpList_mapUpdate_in _ rfl _ _ _ 53 rfl 9 66 kstr Tryz.underlying53 _ mb n Dm rfl hown2 (by have := HN.out; unfold maxLen; omega) _ _ _ rfl rfl HK.out _ [] HR.out ?_; intro w3 hown3 hturn3)
  go_end0
  have hg := hturn3.grown
  rw [← H2.out] at hg
  have hg2 : Touch [mb] w1.drew w3 := Touch.of_grown hg
  have T : Touch [mb] w w3 := (ht1.drew_.mono (by simp)).trans hg2 (by simp)
  exact ⟨rfl, ⟨T.blk h.blk (by simpa using hne), h.room, h.left, ⟨h.done.1, by have := h.done.2; simp; omega⟩, .inr ⟨mb, _, rfl, hown3, hv.put hown.isMap h.fit.sorted _ _⟩, h.fit.put _ _ (by rw [nm_size]; omega) hf HU.out⟩, T⟩

set_option maxRecDepth 10000 in
set_option maxHeartbeats 400000 in
theorem set_none (w : World) (b n : Nat) (d : DM.D) (h : DiskAt w b none n d) (s : ByteArray) (hs : s.size ≤ 40) (f : F) (hf : f.2 ≤ f.1.size) (hu : DM.used (DM.put d.fl (nm s) f) ≤ 1099511627776) :
    Calls Tryz.prog 79 #[.pointer (some ⟨b, 0, none⟩), .string s, fileV f] w fun e w' => e = .returned (.tuple #[]) ∧ DiskAt w' b (some (w.heap.size + 1)) (n + 1) { d with fl := DM.put d.fl (nm s) f } ∧ Touch [b] w w' := by
  have c1 := h.c1
  have f1 := h.blk.frozen 1
  have hblt := h.blk.lt
  have hfl : d.fl = [] := by
    rcases h.map with ⟨_, h⟩ | ⟨_, _, e, _⟩
    · exact h
    · cases e
  have HFL := Lib.hid hfl
  clear hfl
  have hq : ∀ w, (binOp .eql 53 (.map none) (.map none)).run Tryz.prog w = .ok (.bool true) w := fun w => by kernel_rfl
  have hmm := @run_makeMap Tryz.prog
  have hl : fileV f = .agg #[.string f.1, .int .i64 (f.2 : Int)] := rfl
  rw [hl]
  have hkey : keyOf Tryz.prog 9 (.string s) = some (.string (nm s)) := keyOf_string_mk Tryz.underlying9 (by unfold maxLen; omega)
  have HK := Lib.hid hkey
  have HU := Lib.hid hu
  clear hl hkey hu
  go_enter Tryz.func79, Tryz.ntmps79
  go_wp2
  obtain ⟨w1, hw1⟩ : ∃ w1, w1 = ((w.setCell ⟨b, 1, none⟩ (.map (some (w.heap.size + 1)))).alloc (.cells #[.string f.1, .int .i64 (f.2 : Int)] 66)).alloc (.map #[] 0) := ⟨_, rfl⟩
  rw [← hw1]
  have hB : Blk w1 w.heap.size 66 #[.string f.1, .int .i64 (f.2 : Int)] := by rw [hw1]; exact (Blk.new' _ _ _ (by simp)).alloc _
  have hb1 : Blk w1 b 55 #[.int .i64 d.room, .map (some (w.heap.size + 1)), .bool d.off, .int .i64 d.left, .int .i64 d.done] := by rw [hw1]; exact ((h.blk.set_ 1 _).alloc _).alloc _
  have ht1 : Touch [b] w w1 := by rw [hw1]; exact (((Touch.refl _ w).setCell _ _ (.inl (by simp))).alloc _).alloc _
  have hown1 : w1.ownsMap Tryz.prog 9 RF (w.heap.size + 1) 0 (.map []) := by
    rw [hw1]
    have := World.ownsMap_made (H := Unit) ((w.setCell ⟨b, 1, none⟩ (.map (some (w.heap.size + 1)))).alloc (.cells #[.string f.1, .int .i64 (f.2 : Int)] 66)) Tryz.prog 9 RF
    rwa [World.size_alloc, World.size_setCell] at this
  have hs1 : w1.heap.size = w.heap.size + 2 := by rw [hw1]; simp
  clear c1 f1 hw1
  have c1 : w1.cell? ⟨b, 1, none⟩ = some (.map (some (w.heap.size + 1))) := hb1.cell 1
  have x0 := hB.cell 0
  have x1 := hB.cell 1
  go_still_tail 6, (by kernel_rfl)
  change wpList _ _ _ _ _ w1.drew
  obtain ⟨w2, hw2⟩ : ∃ w2, w1.drew = w2 := ⟨_, rfl⟩
  rw [hw2]
  have hown2 : w2.ownsMap Tryz.prog 9 RF (w.heap.size + 1) 0 (.map []) := hw2 ▸ hown1
  have H2 := Lib.hid hw2
  have HS1 := Lib.hid hs1
  clear hw2 hq c1 x0 x1 hmm hs1
  have hRF : RF (.agg #[.string f.1, .int .i64 (f.2 : Int)]) = some (fileD f, []) := RF_mk f
  have HR := Lib.hid hRF
  clear hRF
  go_wp2_with (at_mapUpdate; refine wpList_mapUpdate_in _ rfl _ _ _ 53 rfl 9 66 kstr Tryz.underlying53 _ (w.heap.size + 1) 0 _ rfl hown2 (by unfold maxLen; omega) _ _ _ rfl rfl HK.out _ [] HR.out ?_; intro w3 hown3 hturn3)
  go_end0
  have hg := hturn3.grown
  rw [← H2.out] at hg
  have hs1 := HS1.out
  have hg2 : Touch [w.heap.size + 1] w1.drew w3 := Touch.of_grown hg
  have T : Touch [b] w w3 := ht1.drew_.trans hg2 (by simp)
  refine ⟨rfl, ⟨hg2.blk hb1 (by simp; omega), h.room, h.left, ⟨h.done.1, by have := h.done.2; simp; omega⟩, .inr ⟨_, _, rfl, hown3.mono (by omega), ?_⟩, h.fit.put _ _ (by rw [nm_size]; omega) hf HU.out⟩, T⟩
  have := ViewF.empty.put isMap_empty Sorted.nil (nm s) f
  rw [show d.fl = [] from HFL.out]
  exact this

theorem set_any (w : World) (b n : Nat) (mo : Option Nat) (d : DM.D) (h : DiskAt w b mo n d) (hn : n < 1099511627776) (s : ByteArray) (hs : s.size ≤ 40) (f : F) (hf : f.2 ≤ f.1.size) (hu : DM.used (DM.put d.fl (nm s) f) ≤ 1099511627776) :
    Calls Tryz.prog 79 #[.pointer (some ⟨b, 0, none⟩), .string s, fileV f] w fun e w' => e = .returned (.tuple #[]) ∧ ∃ mo', DiskAt w' b mo' (n + 1) { d with fl := DM.put d.fl (nm s) f } ∧ DTouch b mo mo' w w' := by
  cases mo with
  | none =>
    refine (set_none w b n d h s hs f hf hu).mono ?_
    rintro e w' ⟨he, hd, ht⟩
    exact ⟨he, _, hd, by simpa using ht, fun m hm => .inr (by cases hm; omega)⟩
  | some mb =>
    refine (set_some w b mb n d h hn s hs f hf hu).mono ?_
    rintro e w' ⟨he, hd, ht⟩
    exact ⟨he, _, hd, ht.mono (by simp), fun m hm => .inl hm⟩
end Go.Proofs.YtmglkhnojimnlaaGreat

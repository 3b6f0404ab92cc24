/- The log as plain data: rooms, sizes, and whole plays. No program here. -/
import Derived.Test.YtmglkhnojimnlaaWalL
namespace Go.Proofs.Ytmglkhnojimnlaa.LM
open DM (N F FL Sorted D)
open WM (Bs all Fits)

theorem thn_room (d : D) (e : Int) (f : FL → FL) : (DM.thn d e f).2.room = d.room := by
  unfold DM.thn DM.step
  split
  · split
    · split <;> rfl
    · split <;> rfl
  · rfl
theorem append_room (d : D) (k : N) (s : ByteArray) : (DM.append d k s).2.room = d.room := by
  unfold DM.append
  simp only
  split
  · rfl
  · exact thn_room _ _ _
theorem cut_room (d : D) (k : N) (n : Int) : (DM.cut d k n).2.room = d.room := by
  unfold DM.cut
  simp only
  split
  · rfl
  · exact thn_room _ _ _
theorem clear_room (d : D) : (clear d).2.room = d.room := by
  unfold clear
  split
  · exact thn_room _ _ _
  · rfl
theorem cutAt_room (d : D) (n k : Nat) : (cutAt d n k).2.room = d.room := by
  unfold cutAt
  split
  · rfl
  · exact cut_room _ _ _
theorem seq_room (r : Int × D) (f : D → Int × D) (m : Int) (h : r.2.room = m) (hf : ∀ d, (f d).2.room = d.room) : (seq r f).2.room = m := by
  unfold seq
  split
  · rw [hf, h]
  · exact h
theorem fixup_room (d : D) : (fixup d).1.2.room = d.room := by
  have h := seq_room (cutAt d (WM.recs (bs (DM.read d walN).1)).2 (DM.read d walN).1.size) (fun d => DM.sync d walN) d.room (cutAt_room _ _ _) (fun d => thn_room _ _ _)
  unfold fixup
  split
  · simp only
    split
    · exact h
    · exact h
  · rfl
theorem opened_room (d : D) : (opened d).1.2.room = d.room := by
  unfold opened
  split
  · rfl
  · split
    · split
      · rw [fixup_room, clear_room]
      · exact clear_room d
    · exact clear_room d
theorem rewriteD_room (d : D) (m : List Bs) : (rewriteD d m).2.room = d.room :=
  seq_room _ _ _ (seq_room _ _ _ (seq_room _ _ _ (clear_room d) (fun _ => append_room _ _ _)) (fun _ => thn_room _ _ _)) (fun _ => thn_room _ _ _)

theorem clear_good {d : D} {u : Nat} (h : DM.Good d u) : DM.Good (clear d).2 u := by
  unfold clear
  split
  · exact h.remove newN
  · exact h
theorem cutAt_good {d : D} {u : Nat} (h : DM.Good d u) (n k : Nat) : DM.Good (cutAt d n k).2 u := by
  unfold cutAt
  split
  · exact h
  · exact h.cut walN n
theorem seq_good {r : Int × D} {f : D → Int × D} {u v : Nat} (h : DM.Good r.2 u) (huv : u ≤ v) (hf : ∀ d, DM.Good d u → DM.Good (f d).2 v) : DM.Good (seq r f).2 v := by
  unfold seq
  split
  · exact hf _ h
  · exact h.mono huv
theorem fixup_good {d : D} {u : Nat} (h : DM.Good d u) : DM.Good (fixup d).1.2 u := by
  have hs := seq_good (f := fun d => DM.sync d walN) (cutAt_good h (WM.recs (bs (DM.read d walN).1)).2 (DM.read d walN).1.size) (Nat.le_refl u) (fun d hd => hd.sync walN)
  unfold fixup
  split
  · simp only
    split
    · exact hs
    · exact hs
  · exact h
theorem opened_good {d : D} {u : Nat} (h : DM.Good d u) : DM.Good (opened d).1.2 u := by
  unfold opened
  split
  · exact h
  · split
    · split
      · exact fixup_good (clear_good h)
      · exact clear_good h
    · exact clear_good h
theorem rewriteD_good {d : D} {u : Nat} (h : DM.Good d u) (m : List Bs) : DM.Good (rewriteD d m).2 (u + (all m).length) := by
  have h1 := seq_good (f := fun d => DM.append d newN (ofBs (all m))) (clear_good h) (show u ≤ u + (all m).length by omega) (fun d hd => by have := hd.append newN (ofBs (all m)); rwa [ofBs_size] at this)
  have h2 := seq_good (f := fun d => DM.sync d newN) h1 (Nat.le_refl _) (fun d hd => hd.sync newN)
  exact seq_good (f := fun d => DM.rename d newN walN) h2 (Nat.le_refl _) (fun d hd => hd.rename newN walN)
theorem append_good {x : L} {u : Nat} (h : DM.Good x.d u) (m : List Bs) : DM.Good (append x m).2.d (u + (all m).length) := by
  unfold append
  split
  · exact h.mono (by omega)
  · split
    · exact h.mono (by omega)
    · have := h.append walN (ofBs (all m))
      rw [ofBs_size] at this
      simp only
      split
      · exact this
      · exact this
theorem sync_good {x : L} {u : Nat} (h : DM.Good x.d u) : DM.Good (sync x).2.d u := by
  unfold sync
  split
  · exact h
  · split
    · exact h
    · have := h.sync walN
      simp only
      split
      · exact this
      · exact this
theorem rewrite_good {x : L} {u : Nat} (h : DM.Good x.d u) (m : List Bs) : DM.Good (rewrite x m).2.d (u + (all m).length) := by
  unfold rewrite
  split
  · exact h.mono (by omega)
  · have := rewriteD_good h m
    simp only
    split
    · exact this
    · exact this

/-- what a log that is not broken is -/
def InvL (x : L) : Prop := Inv x.d.fl x.l x.firm
theorem InvL.append {x : L} (h : InvL x) (hs : Sorted x.d.fl) (m : List Bs) (hm : Fits m) : InvL (append x m).2 := by
  unfold LM.append
  split
  · exact h
  · split
    · exact h
    · obtain ⟨h1, h2⟩ := Inv.append h hs m hm
      simp only
      split
      · rename_i h0
        exact h1 h0
      · rename_i h0
        exact h2 h0
theorem InvL.sync {x : L} (h : InvL x) (hs : Sorted x.d.fl) : InvL (sync x).2 := by
  unfold LM.sync
  split
  · exact h
  · split
    · exact h
    · obtain ⟨h1, h2⟩ := Inv.sync h hs
      simp only
      split
      · rename_i h0
        exact h1 h0
      · rename_i h0
        exact h2 h0
theorem InvL.rewrite {x : L} (h : InvL x) (hs : Sorted x.d.fl) (m : List Bs) (hm : Fits m) : InvL (rewrite x m).2 := by
  unfold LM.rewrite
  split
  · exact h
  · obtain ⟨h1, h2, _⟩ := Inv.rewrite h hs m hm
    simp only
    split
    · rename_i h0
      exact h1 h0
    · rename_i h0
      exact h2 h0
theorem append_ok (x : L) (m : List Bs) (hb : x.broken = false) (hm : m ≠ []) (h : (DM.append x.d walN (ofBs (all m))).1 = 0) : append x m = (0, { x with d := (DM.append x.d walN (ofBs (all m))).2, l := x.l ++ m }) := by
  unfold append
  rw [if_neg (by simp [hb]), if_neg hm]
  simp [said, h]
theorem sync_ok (x : L) (hb : x.broken = false) (hf : ¬ x.firm = x.l.length) (h : (DM.sync x.d walN).1 = 0) : sync x = (0, { x with d := (DM.sync x.d walN).2, firm := x.l.length }) := by
  unfold sync
  rw [if_neg (by simp [hb]), if_neg hf]
  simp [said, h]
/-- a disk with power for good -/
structure Calm (d : D) (room : Int) : Prop where
  off : d.off = false
  left : d.left = 0
  room : d.room = room
theorem Calm.crash (d : D) (ps : List Int) : Calm (DM.crash d ps) d.room := ⟨rfl, rfl, rfl⟩
theorem Calm.opened {d : D} {u : Int} {l : List Bs} (h : Calm d u) (hT : Torn d.fl l) (hs : Sorted d.fl) : Calm (opened d).1.2 u ∧ opened d = ((0, (opened d).1.2), l) ∧ Inv (opened d).1.2.fl l l.length := by
  have ho := opened_ends d l hT hs h.off
  obtain ⟨h1, h2⟩ := ho.left h.left
  obtain ⟨h3, h4, h5⟩ := ho.good h1
  exact ⟨⟨h5, h2, (opened_room d).trans h.room⟩, by rw [← h1, ← h3], h4⟩
theorem calm_append {d : D} {u : Nat} {room : Int} (h : Calm d room) (hg : DM.Good d u) (k : N) (hk : DM.bad k = false) (s : ByteArray) (hr : (u : Int) + s.size ≤ room) : (DM.append d k s).1 = 0 ∧ Calm (DM.append d k s).2 room := by
  have hu := hg.us
  have hm := DM.may1_in d k h.off hk
  have e : DM.append d k s = DM.thn d 0 (fun l => DM.put l k ((DM.getF l k).1 ++ s, (DM.getF l k).2)) := by
    unfold DM.append
    simp only [hm]
    rw [if_neg (by rw [h.room]; omega)]
  rw [e]
  obtain ⟨h1, h2⟩ := thn_left d (fun l => DM.put l k ((DM.getF l k).1 ++ s, (DM.getF l k).2)) h.left
  rcases thn_fl d 0 (fun l => DM.put l k ((DM.getF l k).1 ++ s, (DM.getF l k).2)) with ⟨_, _, h3⟩ | ⟨h3, _⟩
  · exact ⟨h1, h3.trans h.off, h2, (thn_room _ _ _).trans h.room⟩
  · exact absurd h1 h3
theorem calm_sync {d : D} {room : Int} (h : Calm d room) (k : N) (hk : DM.bad k = false) (hl : (DM.look d.fl k).isSome = true) : (DM.sync d k).1 = 0 ∧ Calm (DM.sync d k).2 room := by
  unfold DM.sync
  rw [may_in d k h.off hk hl]
  obtain ⟨h1, h2⟩ := thn_left d (fun l => DM.put l k ((DM.getF l k).1, (DM.getF l k).1.size)) h.left
  rcases thn_fl d 0 (fun l => DM.put l k ((DM.getF l k).1, (DM.getF l k).1.size)) with ⟨_, _, h3⟩ | ⟨h3, _⟩
  · exact ⟨h1, h3.trans h.off, h2, (thn_room _ _ _).trans h.room⟩
  · exact absurd h1 h3
theorem Inv.some {fl : FL} {l : List Bs} {firm : Nat} (h : Inv fl l firm) (hl : l ≠ []) : (DM.look fl walN).isSome = true := by
  have := h.at_
  cases hk : DM.look fl walN with
  | none => rw [hk] at this; exact absurd this hl
  | some f => rfl

/-- opened, appended to, crashed, opened twice, appended to and synced, crashed, opened -/
structure Again (A B : List Bs) (ps : List Int) (M : List Bs) (d0 d2 d3 d5 d6 : D) (y : L) : Prop where
  new : opened (DM.new 100000) = ((0, d0), [])
  u0 : DM.Good d0 0
  u1 : DM.Good (append (start d0 []) A).2.d (all A).length
  one : opened (DM.crash (append (start d0 []) A).2.d ps) = ((0, d2), M)
  two : opened d2 = ((0, d3), M)
  u3 : DM.Good d3 (all A).length
  begins : ∃ j, j ≤ A.length ∧ M = A.take j
  app : append (start d3 M) B = (0, y)
  uy : DM.Good y.d ((all A).length + (all B).length)
  syn : (sync y).1 = 0
  last : opened (DM.crash (sync y).2.d ps) = ((0, d6), M ++ B)
theorem again (A B : List Bs) (hA : Fits A) (hB : Fits B) (ha : (all A).length ≤ 2000) (hb : (all B).length ≤ 2000) (ps : List Int) : ∃ M d0 d2 d3 d5 d6 y, Again A B ps M d0 d2 d3 d5 d6 y := by
  have hn : opened (DM.new 100000) = ((0, DM.new 100000), []) := by kernel_rfl
  have g0 : DM.Good (DM.new 100000) 0 := DM.Good.new _
  have i0 : InvL (start (DM.new 100000) []) := Inv.empty
  have i1 := i0.append g0.sorted A hA
  have g1 := append_good (x := start (DM.new 100000) []) g0 A
  rw [Nat.zero_add] at g1
  have hl1 : ∃ j, j ≤ A.length ∧ (append (start (DM.new 100000) []) A).2.l = A.take j ∧ (append (start (DM.new 100000) []) A).2.firm = 0 ∧ (append (start (DM.new 100000) []) A).2.d.room = 100000 := by
    unfold append
    rw [if_neg (by simp [start])]
    split
    · exact ⟨0, Nat.zero_le _, by simp [start], rfl, rfl⟩
    · simp only
      split
      · exact ⟨A.length, Nat.le_refl _, by simp [said, start], rfl, append_room _ _ _⟩
      · exact ⟨0, Nat.zero_le _, by simp [said, start], rfl, append_room _ _ _⟩
  obtain ⟨j1, hj1, hl1, hf1, hr1⟩ := hl1
  obtain ⟨x1, hx1⟩ : ∃ x, x = (append (start (DM.new 100000) []) A).2 := ⟨_, rfl⟩
  rw [← hx1] at i1 g1 hl1 hf1 hr1
  obtain ⟨j, hj0, hj, hT⟩ := Inv.crash i1 ps
  rw [hl1] at hT hj
  have hM : ∃ i, i ≤ A.length ∧ (A.take j1).take j = A.take i := ⟨j, by rw [List.length_take] at hj; omega, by rw [List.take_take]; congr 1; rw [List.length_take] at hj; omega⟩
  obtain ⟨M, hMe⟩ : ∃ M, M = (A.take j1).take j := ⟨_, rfl⟩
  have hM2 := hM
  rw [← hMe] at hT
  have c1 : Calm (DM.crash x1.d ps) 100000 := by rw [← hr1]; exact Calm.crash _ _
  have gc := g1.crash ps
  obtain ⟨c2, o2, i2⟩ := c1.opened hT gc.sorted
  have g2 := opened_good gc
  obtain ⟨d2, hd2⟩ : ∃ d, d = (opened (DM.crash x1.d ps)).1.2 := ⟨_, rfl⟩
  rw [← hd2] at c2 o2 i2 g2
  obtain ⟨c3, o3, i3⟩ := c2.opened i2.torn g2.sorted
  have g3 := opened_good g2
  obtain ⟨d3, hd3⟩ : ∃ d, d = (opened d2).1.2 := ⟨_, rfl⟩
  rw [← hd3] at c3 o3 i3 g3
  have hMfit := hT.fits
  -- appended
  have gy := append_good (x := start d3 M) g3 B
  have iy : InvL (append (start d3 M) B).2 := InvL.append (x := start d3 M) i3 g3.sorted B hB
  have hy : (append (start d3 M) B).1 = 0 ∧ (append (start d3 M) B).2.l = M ++ B ∧ (append (start d3 M) B).2.broken = false ∧ Calm (append (start d3 M) B).2.d 100000 ∧ (append (start d3 M) B).2.firm = M.length := by
    by_cases hB0 : B = []
    · have e : append (start d3 M) B = (0, start d3 M) := by unfold append; rw [if_neg (by simp [start]), if_pos hB0]
      rw [e]
      subst hB0
      exact ⟨rfl, by simp [start], rfl, c3, rfl⟩
    · obtain ⟨q1, q2⟩ := calm_append c3 g3 walN bad_wal (ofBs (all B)) (by rw [ofBs_size]; omega)
      rw [append_ok (start d3 M) B rfl hB0 q1]
      exact ⟨rfl, rfl, rfl, q2, rfl⟩
  obtain ⟨hy1, hy2, hy3, hy4, hy5⟩ := hy
  obtain ⟨y, hye⟩ : ∃ y, y = (append (start d3 M) B).2 := ⟨_, rfl⟩
  have happ : append (start d3 M) B = (0, y) := by rw [hye, ← hy1]
  rw [← hye] at gy iy hy2 hy3 hy4 hy5
  -- synced
  have iz := iy.sync gy.sorted
  have gz := sync_good gy
  have hz : (sync y).1 = 0 ∧ (sync y).2.l = M ++ B ∧ (sync y).2.firm = (M ++ B).length ∧ (sync y).2.d.room = 100000 := by
    by_cases h : y.firm = y.l.length
    · have e : sync y = (0, y) := by unfold sync; rw [if_neg (by simp [hy3]), if_pos h]
      rw [e]
      exact ⟨rfl, hy2, by rw [h, hy2], hy4.room⟩
    · have hne : y.l ≠ [] := by intro e; rw [e] at h; rw [hy5] at h; rw [hy2] at e; simp at e; rw [e.1] at h; simp at h
      obtain ⟨q1, q2⟩ := calm_sync hy4 walN bad_wal (Inv.some iy hne)
      rw [sync_ok y hy3 h q1]
      exact ⟨rfl, hy2, by simp only [hy2], q2.room⟩
  obtain ⟨hz1, hz2, hz3, hz4⟩ := hz
  have iz' : Inv (sync y).2.d.fl (M ++ B) (M ++ B).length := by have := iz; unfold InvL at this; rwa [hz2, hz3] at this
  obtain ⟨k, hk0, hk1, hTz⟩ := iz'.crash ps
  obtain rfl : k = (M ++ B).length := by omega
  rw [List.take_length] at hTz
  have cz : Calm (DM.crash (sync y).2.d ps) 100000 := by rw [← hz4]; exact Calm.crash _ _
  obtain ⟨c6, o6, _⟩ := cz.opened hTz (gz.crash ps).sorted
  exact ⟨M, DM.new 100000, d2, d3, d3, _, y, hn, g0, by rw [← hx1]; exact g1, by rw [← hx1]; exact o2, o3, g3, (by obtain ⟨j, h1, h2⟩ := hM; exact ⟨j, h1, by rw [hMe]; exact h2⟩), happ, gy, hz1, o6⟩
end Go.Proofs.Ytmglkhnojimnlaa.LM

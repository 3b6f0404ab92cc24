/- Footprints: which blocks an object is made of. -/
import Derived.Test.YtmglkhnojimnlaaGreatDiskOwn
import Derived.Laws.AppendOwn
namespace Go.Proofs.YtmglkhnojimnlaaGreat
open Go.RowKit Go.Maps

/-- what is of the footprint behind a call was of it, or is new -/
def Fresh (w : World) (S S' : List Nat) : Prop := ∀ k ∈ S', k ∈ S ∨ w.heap.size ≤ k
/-- all of a footprint is newer than a world -/
def New (w0 : World) (S : List Nat) : Prop := ∀ k ∈ S, w0.heap.size ≤ k
/-- the blocks of a footprint are maps, or of these types -/
def Foot (w : World) (S : List Nat) (ts : List TypeId) : Prop := ∀ k ∈ S, (∃ t cs, Blk w k t cs ∧ t ∈ ts) ∨ ∃ es c, w.heap[k]? = some (.map es c)

theorem Fresh.refl (w : World) (S : List Nat) : Fresh w S S := fun _ h => .inl h
theorem Fresh.trans {w w' : World} {S S' S'' : List Nat} (h : Fresh w S S') (h' : Fresh w' S' S'') (hs : w.heap.size ≤ w'.heap.size) : Fresh w S S'' := fun k hk => by
  rcases h' k hk with h1 | h1
  · exact h k h1
  · exact .inr (Nat.le_trans hs h1)
theorem New.fresh {w0 w : World} {S S' : List Nat} (h : New w0 S) (hf : Fresh w S S') (hs : w0.heap.size ≤ w.heap.size) : New w0 S' := fun k hk => by
  rcases hf k hk with h1 | h1
  · exact h k h1
  · exact Nat.le_trans hs h1
theorem New.touch {w0 w w' : World} {S : List Nat} (h : New w0 S) (t : Touch [] w0 w) (t' : Touch S w w') : Touch [] w0 w' := t.trans t' (fun k hk => .inr (h k hk))
theorem New.mono {w0 w : World} {S : List Nat} (h : New w S) (t : w0.heap.size ≤ w.heap.size) : New w0 S := fun k hk => Nat.le_trans t (h k hk)
theorem Foot.ne {w : World} {S : List Nat} {ts : List TypeId} (h : Foot w S ts) {g : Nat} {t : TypeId} {cs : Array Value} (hb : Blk w g t cs) (ht : t ∉ ts) : g ∉ S := by
  intro hm
  rcases h g hm with ⟨t', cs', hb', ht'⟩ | ⟨es, c, hmap⟩
  · by_cases e : t = t'
    · subst e; exact ht ht'
    · exact hb.ne_type hb' e rfl
  · exact hb.ne_map hmap rfl
/-- blocks of other types are as they were -/
def KeepBut (ts : List TypeId) (w w' : World) : Prop := ∀ g t cs, Blk w g t cs → t ∉ ts → Blk w' g t cs
theorem KeepBut.of {w w' : World} {S : List Nat} {ts : List TypeId} (h : Foot w S ts) (t : Touch S w w') : KeepBut ts w w' := fun _ _ _ hb ht => t.blk hb (h.ne hb ht)
theorem KeepBut.refl (ts : List TypeId) (w : World) : KeepBut ts w w := fun _ _ _ h _ => h
theorem KeepBut.trans {ts : List TypeId} {w w' w'' : World} (h : KeepBut ts w w') (h' : KeepBut ts w' w'') : KeepBut ts w w'' := fun g t cs hb ht => h' g t cs (h g t cs hb ht) ht
theorem KeepBut.touch {w w' : World} (ts : List TypeId) (t : Touch [] w w') : KeepBut ts w w' := fun _ _ _ hb _ => t.blk hb (by simp)
theorem KeepBut.mono {ts ts' : List TypeId} {w w' : World} (h : KeepBut ts w w') (hs : ∀ t ∈ ts, t ∈ ts') : KeepBut ts' w w' := fun g t cs hb ht => h g t cs hb (fun hm => ht (hs t hm))

/-- a disk and its footprint -/
def DiskF (w : World) (S : List Nat) (b n : Nat) (d : DM.D) : Prop := ∃ mo, DiskAt w b mo n d ∧ S = b :: mo.toList
theorem DiskF.touch {w w' : World} {S T : List Nat} {b n : Nat} {d : DM.D} (h : DiskF w S b n d) (ht : Touch T w w') (hs : ∀ k ∈ S, k ∉ T) : DiskF w' S b n d := by
  obtain ⟨mo, hd, rfl⟩ := h
  exact ⟨mo, hd.touch ht (hs b (by simp)) (fun m hm => hs m (by simp [hm])), rfl⟩
theorem DiskF.lt {w : World} {S : List Nat} {b n : Nat} {d : DM.D} (h : DiskF w S b n d) : ∀ k ∈ S, k < w.heap.size := by
  obtain ⟨mo, hd, rfl⟩ := h
  intro k hk
  rcases List.mem_cons.1 hk with rfl | hk
  · exact hd.blk.lt
  · exact hd.lt_map (by simpa using hk)
theorem DiskF.foot {w : World} {S : List Nat} {b n : Nat} {d : DM.D} (h : DiskF w S b n d) : Foot w S [55] := by
  obtain ⟨mo, hd, rfl⟩ := h
  intro k hk
  rcases List.mem_cons.1 hk with rfl | hk
  · exact .inl ⟨_, _, hd.blk, by simp⟩
  · right
    rcases hd.map with ⟨e, _⟩ | ⟨mb, Dm, e, ⟨es, clock, hh, hr⟩, hv⟩
    · rw [e] at hk; simp at hk
    · rw [e] at hk
      simp at hk
      subst hk
      exact ⟨es, clock, hh⟩
theorem DiskF.mono {w : World} {S : List Nat} {b n m : Nat} {d : DM.D} (h : DiskF w S b n d) (hnm : n ≤ m) : DiskF w S b m d := by
  obtain ⟨mo, hd, rfl⟩ := h
  exact ⟨mo, hd.mono hnm, rfl⟩
/-- how a call of the disk ends -/
def DEnds (S : List Nat) (b n : Nat) (w : World) (r : Int × DM.D) (e : Ending) (w' : World) : Prop :=
  e = .returned (.int .i64 r.1) ∧ ∃ S', DiskF w' S' b (n + 2) r.2 ∧ Touch S w w' ∧ Fresh w S S'
theorem DEnds.of {b n : Nat} {mo : Option Nat} {w w' : World} {r : Int × DM.D} {e : Ending} (h : Ends b n mo w r e w') : DEnds (b :: mo.toList) b n w r e w' := by
  obtain ⟨rfl, mo', hd, ht, hm⟩ := h
  refine ⟨rfl, b :: mo'.toList, ⟨mo', hd, rfl⟩, ht, fun k hk => ?_⟩
  rcases List.mem_cons.1 hk with rfl | hk
  · exact .inl (by simp)
  · rcases hm k (by simpa using hk) with h1 | h1
    · exact .inl (by simp [h1])
    · exact .inr h1
section
variable {w : World} {S : List Nat} {b n : Nat} {d : DM.D}
theorem dappend (h : DiskF w S b n d) (hn : n < 1099511627775) (k s : ByteArray) (hk : k.size ≤ maxLen) (hu : DM.used d.fl + s.size ≤ 1099511627776) :
    Calls Tryz.prog 52 #[.pointer (some ⟨b, 0, none⟩), .string k, .string s] w (DEnds S b n w (DM.append d (nm k) s)) := by
  obtain ⟨mo, hd, rfl⟩ := h
  exact (append_any w b n mo d hd hn k s hk hu).mono fun e w' he => DEnds.of he
theorem dsync (h : DiskF w S b n d) (hn : n < 1099511627775) (k : ByteArray) (hk : k.size ≤ maxLen) :
    Calls Tryz.prog 47 #[.pointer (some ⟨b, 0, none⟩), .string k] w (DEnds S b n w (DM.sync d (nm k))) := by
  obtain ⟨mo, hd, rfl⟩ := h
  exact (sync_any w b n mo d hd hn k hk).mono fun e w' he => DEnds.of he
theorem dremove (h : DiskF w S b n d) (hn : n < 1099511627775) (k : ByteArray) (hk : k.size ≤ maxLen) :
    Calls Tryz.prog 73 #[.pointer (some ⟨b, 0, none⟩), .string k] w (DEnds S b n w (DM.remove d (nm k))) := by
  obtain ⟨mo, hd, rfl⟩ := h
  exact (remove_any w b n mo d hd hn k hk).mono fun e w' he => DEnds.of he
theorem drename (h : DiskF w S b n d) (hn : n < 1099511627775) (k m : ByteArray) (hk : k.size ≤ maxLen) (hm : m.size ≤ maxLen) :
    Calls Tryz.prog 58 #[.pointer (some ⟨b, 0, none⟩), .string k, .string m] w (DEnds S b n w (DM.rename d (nm k) (nm m))) := by
  obtain ⟨mo, hd, rfl⟩ := h
  exact (rename_any w b n mo d hd hn k m hk hm).mono fun e w' he => DEnds.of he
theorem dcut (h : DiskF w S b n d) (hn : n < 1099511627775) (k : ByteArray) (hk : k.size ≤ maxLen) (c : Int) (hc : (Lit.int .i64 c).wf = true) :
    Calls Tryz.prog 45 #[.pointer (some ⟨b, 0, none⟩), .string k, .int .i64 c] w (DEnds S b n w (DM.cut d (nm k) c)) := by
  obtain ⟨mo, hd, rfl⟩ := h
  exact (cut_any w b n mo d hd hn k hk c hc).mono fun e w' he => DEnds.of he
theorem dread (h : DiskF w S b n d) (k : ByteArray) (hk : k.size ≤ maxLen) :
    Calls Tryz.prog 41 #[.pointer (some ⟨b, 0, none⟩), .string k] w fun e w' => e = .returned (.tuple #[.string (DM.read d (nm k)).1, .int .i64 (DM.read d (nm k)).2]) ∧ Touch [] w w' := by
  obtain ⟨mo, hd, rfl⟩ := h
  exact read_any w b n mo d hd k hk
theorem dnames (h : DiskF w S b n d) (hn : n < 1099511627776) :
    Calls Tryz.prog 34 #[.pointer (some ⟨b, 0, none⟩)] w (NamesEnd d.fl w) := by
  obtain ⟨mo, hd, rfl⟩ := h
  exact names_any w b n mo d hd hn
theorem don (h : DiskF w S b n d) :
    Calls Tryz.prog 38 #[.pointer (some ⟨b, 0, none⟩)] w fun e w' => e = .returned (.bool (!d.off)) ∧ w' = w := by
  obtain ⟨mo, hd, rfl⟩ := h
  exact on_any w b n mo d hd
theorem darm (h : DiskF w S b n d) (k : Int) :
    Calls Tryz.prog 27 #[.pointer (some ⟨b, 0, none⟩), .int .i64 k] w fun e w' => e = .returned (.tuple #[]) ∧ DiskF w' S b n (DM.arm d k) ∧ Touch S w w' := by
  obtain ⟨mo, hd, rfl⟩ := h
  refine (arm_any w b n mo d hd k).mono ?_
  rintro e w' ⟨rfl, h1, h2⟩
  exact ⟨rfl, ⟨mo, h1, rfl⟩, h2.mono (by simp)⟩
end

/- rows of one's own -/
theorem row_far {w w' : World} {B size n : Nat} {e : TypeId} {v : Value} {xs : List Value} {S : List Nat} (h : w.ownsRow B e size v n xs) (ht : Touch S w w') (hs : ∀ k, v.ownBlock = some k → k ∉ S) : w'.ownsRow B e size v n xs := by
  obtain ⟨hl, h⟩ := h
  refine ⟨hl, ?_⟩
  rcases h with h | ⟨g, cap, cur, rfl, h1, h2, h3⟩
  · exact .inl h
  · exact .inr ⟨g, cap, cur, rfl, h1, ht.heap h2 (hs g rfl), h3⟩
theorem row_blk {w : World} {B size n : Nat} {e : TypeId} {v : Value} {xs : List Value} (h : w.ownsRow B e size v n xs) : ∀ k, v.ownBlock = some k → ∃ cs, Blk w k e cs := by
  obtain ⟨hl, h⟩ := h
  rcases h with h | ⟨g, cap, cur, rfl, h1, h2, h3⟩
  · intro k hk; rw [h.1] at hk; cases hk
  · intro k hk; cases hk; exact ⟨cur, h2⟩
theorem row_foot {w : World} {B size n : Nat} {e : TypeId} {v : Value} {xs : List Value} (h : w.ownsRow B e size v n xs) : Foot w v.ownBlock.toList [e] := by
  intro k hk
  obtain ⟨cs, hb⟩ := row_blk h k (by simpa using hk)
  exact .inl ⟨e, cs, hb, by simp⟩
theorem Foot.mono {w : World} {S : List Nat} {ts ts' : List TypeId} (h : Foot w S ts) (hs : ∀ t ∈ ts, t ∈ ts') : Foot w S ts' := fun k hk => by
  rcases h k hk with ⟨t, cs, hb, ht⟩ | hm
  · exact .inl ⟨t, cs, hb, hs t ht⟩
  · exact .inr hm
theorem Foot.append {w : World} {S S' : List Nat} {ts : List TypeId} (h : Foot w S ts) (h' : Foot w S' ts) : Foot w (S ++ S') ts := fun k hk => by
  rcases List.mem_append.1 hk with hk | hk
  · exact h k hk
  · exact h' k hk
theorem Foot.cons {w : World} {g : Nat} {S : List Nat} {ts : List TypeId} {t : TypeId} {cs : Array Value} (hb : Blk w g t cs) (ht : t ∈ ts) (h : Foot w S ts) : Foot w (g :: S) ts := fun k hk => by
  rcases List.mem_cons.1 hk with rfl | hk
  · exact .inl ⟨t, cs, hb, ht⟩
  · exact h k hk
/-- footprints of unlike types lie apart -/
theorem Foot.apart {w : World} {S T : List Nat} {ts : List TypeId} (h : Foot w S ts) (hT : ∀ k ∈ T, ∃ t cs, Blk w k t cs ∧ t ∉ ts) : ∀ k ∈ S, k ∉ T := fun k hk hm => by
  obtain ⟨t, cs, hb, ht⟩ := hT k hm
  exact h.ne hb ht hk
end Go.Proofs.YtmglkhnojimnlaaGreat

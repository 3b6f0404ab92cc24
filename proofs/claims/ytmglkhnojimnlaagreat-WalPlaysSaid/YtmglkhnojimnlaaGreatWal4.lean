/- Package wal: a log in memory; Len, Firm, Size, Broken, ready, said, have. -/
import Derived.Test.YtmglkhnojimnlaaGreatWalL
import Derived.Test.YtmglkhnojimnlaaGreatWal3
import Derived.Test.YtmglkhnojimnlaaGreatFoot
import Derived.Maps.AppendAt
namespace Go.Proofs.YtmglkhnojimnlaaGreat
open Go.RowKit Go.Maps

/-- the sizes of a log's records -/
def sizeV (s : WM.Bs) : Value := .int .i64 (8 + (s.length : Int))
def SizeRow (w : World) (sv : Value) (l : List WM.Bs) : Prop := w.ownsRow 0 3 1 sv l.length (l.map sizeV)
def walV (b : Nat) (sv : Value) (firm : Nat) (br : Bool) : Array Value := #[.pointer (some ⟨b, 0, none⟩), sv, .int .i64 (firm : Int), .bool br]
/-- a log in memory: its own block, its disk, the row of its sizes -/
structure WalAt (w : World) (S D : List Nat) (sv : Value) (g b n : Nat) (x : LM.L) : Prop where
  foot : S = g :: (D ++ sv.ownBlock.toList)
  disk : DiskF w D b n x.d
  blk : Blk w g 70 (walV b sv x.firm x.broken)
  row : SizeRow w sv x.l
  firm : x.firm ≤ 137438953472
  small : (WM.all x.l).length ≤ 1099511627776
abbrev walTs : List TypeId := [55, 70, 3]
theorem lens_le (l : List WM.Bs) : l.length * 8 ≤ (WM.all l).length := by
  induction l with
  | nil => simp
  | cons s l ih => rw [WM.all_cons, List.length_append, WM.rec_length, List.length_cons]; omega
section
variable {w w' : World} {S D : List Nat} {sv : Value} {g b n : Nat} {x : LM.L}
theorem WalAt.len (h : WalAt w S D sv g b n x) : x.l.length ≤ 137438953472 := by have := lens_le x.l; have := h.small; omega
theorem WalAt.foots (h : WalAt w S D sv g b n x) : Foot w S walTs := by
  rw [h.foot]
  exact Foot.cons h.blk (by simp) ((h.disk.foot.mono (by simp)).append ((row_foot h.row).mono (by simp)))
theorem WalAt.touch {T : List Nat} (h : WalAt w S D sv g b n x) (ht : Touch T w w') (hs : ∀ k ∈ S, k ∉ T) : WalAt w' S D sv g b n x := by
  have hS := h.foot
  exact ⟨hS, h.disk.touch ht (fun k hk => hs k (by rw [hS]; simp [hk])), ht.blk h.blk (hs g (by rw [hS]; simp)), row_far h.row ht (fun k hk => hs k (by rw [hS]; simp [hk])), h.firm, h.small⟩
theorem WalAt.quiet (h : WalAt w S D sv g b n x) (ht : Touch [] w w') : WalAt w' S D sv g b n x := h.touch ht (by simp)
theorem WalAt.c0 (h : WalAt w S D sv g b n x) : w.cell? ⟨g, 0, none⟩ = some (.pointer (some ⟨b, 0, none⟩)) := h.blk.cell 0
theorem WalAt.c1 (h : WalAt w S D sv g b n x) : w.cell? ⟨g, 1, none⟩ = some sv := h.blk.cell 1
theorem WalAt.c2 (h : WalAt w S D sv g b n x) : w.cell? ⟨g, 2, none⟩ = some (.int .i64 (x.firm : Int)) := h.blk.cell 2
theorem WalAt.c3 (h : WalAt w S D sv g b n x) : w.cell? ⟨g, 3, none⟩ = some (.bool x.broken) := h.blk.cell 3
theorem WalAt.sv_shape (h : WalAt w S D sv g b n x) : ∃ a cap, sv = .slice a x.l.length cap := by
  obtain ⟨hl, hr⟩ := h.row
  rcases hr with ⟨h1, h2⟩ | ⟨g, cap, cur, rfl, _⟩
  · exact ⟨none, 0, by rw [h1, h2]⟩
  · exact ⟨_, _, rfl⟩
theorem WalAt.g_disk (h : WalAt w S D sv g b n x) : g ∉ D := fun hm => absurd hm (h.disk.foot.ne h.blk (by decide))
theorem WalAt.g_row (h : WalAt w S D sv g b n x) : g ∉ sv.ownBlock.toList := (row_foot h.row).ne h.blk (by decide)
theorem WalAt.disk_row (h : WalAt w S D sv g b n x) : ∀ k, sv.ownBlock = some k → k ∉ D := fun k hk hm => by
  obtain ⟨cs, hb⟩ := row_blk h.row k hk
  exact absurd hm (h.disk.foot.ne hb (by decide))
/-- the disk alone has turned -/
theorem WalAt.turn {D' : List Nat} {m : Nat} {d : DM.D} (h : WalAt w S D sv g b n x) (hd : DiskF w' D' b m d) (ht : Touch D w w') : WalAt w' (g :: (D' ++ sv.ownBlock.toList)) D' sv g b m { x with d := d } :=
  ⟨rfl, hd, ht.blk h.blk h.g_disk, row_far h.row ht h.disk_row, h.firm, h.small⟩
theorem WalAt.lt (h : WalAt w S D sv g b n x) : ∀ k ∈ S, k < w.heap.size := by
  rw [h.foot]
  intro k hk
  rcases List.mem_cons.1 hk with rfl | hk
  · exact h.blk.lt
  · rcases List.mem_append.1 hk with hk | hk
    · exact h.disk.lt k hk
    · obtain ⟨cs, hb⟩ := row_blk h.row k (by simpa using hk)
      exact hb.lt

theorem wlen_any (h : WalAt w S D sv g b n x) : Calls Tryz.prog 12 #[.pointer (some ⟨g, 0, none⟩)] w fun e w' => e = .returned (.int .i64 (x.l.length : Int)) ∧ w' = w := by
  have c1 := h.c1
  obtain ⟨a, cap, rfl⟩ := h.sv_shape
  clear h
  go_enter Tryz.func12, Tryz.ntmps12
  go_wp2
  go_ret
  exact ⟨rfl, rfl⟩
theorem wfirm_any (h : WalAt w S D sv g b n x) : Calls Tryz.prog 13 #[.pointer (some ⟨g, 0, none⟩)] w fun e w' => e = .returned (.int .i64 (x.firm : Int)) ∧ w' = w := by
  have c2 := h.c2
  clear h
  go_enter Tryz.func13, Tryz.ntmps13
  go_wp2
  go_ret
  exact ⟨rfl, rfl⟩
theorem wbroken_any (h : WalAt w S D sv g b n x) : Calls Tryz.prog 16 #[.pointer (some ⟨g, 0, none⟩)] w fun e w' => e = .returned (.bool x.broken) ∧ w' = w := by
  have c0 := h.c0
  have c3 := h.c3
  clear h
  go_enter Tryz.func16, Tryz.ntmps16
  go_wp2
  go_ret
  exact ⟨rfl, rfl⟩
theorem wready_any (h : WalAt w S D sv g b n x) : Calls Tryz.prog 49 #[.pointer (some ⟨g, 0, none⟩)] w fun e w' => e = .returned (.int .i64 (if x.broken = true then 13 else 0)) ∧ w' = w := by
  have hb := wbroken_any h
  obtain ⟨br, hbr⟩ : ∃ br, br = x.broken := ⟨_, rfl⟩
  rw [← hbr] at hb ⊢
  have HB := Lib.hid hb
  clear hb hbr h
  cases br
  all_goals
    go_enter Tryz.func49, Tryz.ntmps49
    go_wp2_with fail
    refine HB.out.mono ?_
    rintro e w' ⟨rfl, rfl⟩
    go_wp2
    go_ret
    exact ⟨rfl, rfl⟩
theorem wsize_any (h : WalAt w S D sv g b n x) : Calls Tryz.prog 14 #[.pointer (some ⟨g, 0, none⟩)] w fun e w' => e = .returned (.int .i64 ((WM.all x.l).length : Int)) ∧ w' = w := by
  have c1 := h.c1
  have hsm := h.small
  have hlen := h.len
  obtain ⟨a, cap, rfl⟩ := h.sv_shape
  obtain ⟨l, hl⟩ : ∃ l, l = x.l := ⟨_, rfl⟩
  have hcell : ∀ i (hi : i < l.length), ∃ gg, a = some ⟨gg, 0, none⟩ ∧ w.cell? ⟨gg, i, none⟩ = some (.int .i64 (8 + (l[i].length : Int))) := by
    subst hl
    intro i hi
    obtain ⟨hll, hr⟩ := h.row
    rcases hr with ⟨h1, h2⟩ | ⟨gg, cap', cur, hv, h1, h2, h3⟩
    · omega
    · injection hv with hv1 hv2 hv3
      refine ⟨gg, hv1, ?_⟩
      have hc := h.row.cells (g := gg) (by simp [Value.ownBlock, hv1]) i (sizeV x.l[i]) (by rw [List.getElem?_map, List.getElem?_eq_getElem hi]; rfl)
      rw [add_none, Nat.zero_add] at hc
      exact hc
  rw [← hl] at c1 hsm hlen ⊢
  have HC := Lib.hid hcell
  have hlb : (l.length : Int) ≤ 137438953472 := by omega
  clear h hl hcell hlen
  have HSM := Lib.hid hsm
  clear hsm
  go_enter Tryz.func14, Tryz.ntmps14
  go_wp2_with fail
  go_loop [3, 13] (fun u v => ∃ i : Nat, i ≤ l.length ∧ u = .int .i64 ((WM.all (l.take i)).length : Int) ∧ v = .int .i64 i) (fun _ v => l.length - (intOf v).toNat)
  case atStart => exact ⟨0, Nat.zero_le _, by simp [WM.all], rfl⟩
  case round =>
    obtain ⟨i, hi, rfl, rfl⟩ := hrel
    by_cases hlt : i < l.length
    · obtain ⟨gg, rfl, hc⟩ := HC.out i hlt
      have hs := WM.all_take_succ l i hlt
      have hm := WM.all_take_mono l (show i + 1 ≤ l.length by omega)
      rw [List.take_length] at hm
      have hx0 : (0 : Int) ≤ ((WM.all (l.take i)).length : Int) := by omega
      have hx1 : ((WM.all (l.take i)).length : Int) + (l[i].length : Int) ≤ 1099511627776 := by have := HSM.out; omega
      have hs' : ((WM.all (l.take i)).length : Int) + (8 + (l[i].length : Int)) = ((WM.all (l.take (i + 1))).length : Int) := by omega
      have HS := Lib.hid hs'
      obtain ⟨p, hp⟩ : ∃ p, p = (WM.all (l.take i)).length := ⟨_, rfl⟩
      obtain ⟨q, hq⟩ : ∃ q, q = l[i].length := ⟨_, rfl⟩
      rw [← hp] at hx0 hx1 HS ⊢
      rw [← hq] at hx1 HS hc
      clear hs hm hs' hp hq
      go_wp2
      go_round
      case rel => exact ⟨i + 1, by omega, by rw [← HS.out], by go_num⟩
      case measure => simp [intOf]; omega
    · have hie : l.take i = l := List.take_of_length_le (by omega)
      have HI := Lib.hid hie
      clear hie
      go_wp2
      go_ret
      exact ⟨ret_int (by rw [HI.out]), rfl⟩
theorem wsaid_any (h : WalAt w S D sv g b n x) (k : Int) :
    Calls Tryz.prog 51 #[.pointer (some ⟨g, 0, none⟩), .int .i64 k] w fun e w' => e = .returned (.int .i64 k) ∧ WalAt w' S D sv g b n { x with broken := x.broken || (k != 0 && k != 15) } ∧ Touch [g] w w' := by
  have c3 := h.c3
  have f3 := h.blk.frozen 3
  have hset : ∀ br : Bool, br = (x.broken || (k != 0 && k != 15)) → WalAt (w.setCell ⟨g, 3, none⟩ (.bool br)) S D sv g b n { x with broken := x.broken || (k != 0 && k != 15) } ∧ Touch [g] w (w.setCell ⟨g, 3, none⟩ (.bool br)) := fun br e => by
    have ht : Touch [g] w (w.setCell ⟨g, 3, none⟩ (.bool br)) := (Touch.refl _ _).setCell _ _ (.inl (by simp))
    rw [← e]
    exact ⟨⟨h.foot, h.disk.touch ht (fun k hk hm => h.g_disk (by simp at hm; rwa [← hm])), h.blk.set_ 3 _, row_far h.row ht (fun k hk hm => h.g_row (by simp at hm; subst hm; simp [hk])), h.firm, h.small⟩, ht⟩
  have HS := Lib.hid hset
  clear hset
  obtain ⟨br, hbr⟩ : ∃ br, br = x.broken := ⟨_, rfl⟩
  rw [← hbr] at c3 HS ⊢
  have HBR := Lib.hid hbr
  clear h hbr
  cases br
  · by_cases h0 : k = 0
    · subst h0
      go_enter Tryz.func51, Tryz.ntmps51
      go_wp2
      go_ret
      exact ⟨rfl, HS.out false rfl⟩
    · have h0' : (k == 0) = false := by simpa using h0
      have h0'' : (k != 0) = true := by simpa using h0
      by_cases h1 : k = 15
      · subst h1
        go_enter Tryz.func51, Tryz.ntmps51
        go_wp2
        go_ret
        exact ⟨rfl, HS.out false rfl⟩
      · have h1' : (k == 15) = false := by simpa using h1
        have h1'' : (k != 15) = true := by simpa using h1
        have HE : Hid (true = (false || (k != 0 && k != 15))) := by rw [h0'', h1'']; exact Lib.hid rfl
        go_enter Tryz.func51, Tryz.ntmps51
        go_wp2
        go_ret
        exact ⟨rfl, HS.out _ HE.out⟩
  · have HE : Hid (true = (true || (k != 0 && k != 15))) := Lib.hid rfl
    go_enter Tryz.func51, Tryz.ntmps51
    go_wp2
    go_ret
    exact ⟨rfl, HS.out _ HE.out⟩
end
theorem infoInt : (Tryz.prog.info? 3).map (fun i => (i.zero, i.size, i.bytes)) = some (some (.int .i64 0), 1, 8) := by kernel_rfl
/-- texts in a row, for reading -/
def Texts (w : World) (a : Option Addr) (ss : List ByteArray) : Prop := ∀ i (h : i < ss.length), ∃ blk off, a = some ⟨blk, off, none⟩ ∧ w.cell? ⟨blk, off + i, none⟩ = some (.string ss[i])
theorem Texts.nil (w : World) (a : Option Addr) : Texts w a [] := fun i h => absurd h (Nat.not_lt_zero _)
theorem Texts.far {w w' : World} {a : Option Addr} {ss : List ByteArray} {T : List Nat} (h : Texts w a ss) (ht : Touch T w w') (hT : ∀ blk off, a = some ⟨blk, off, none⟩ → blk ∉ T) : Texts w' a ss := fun i hi => by
  obtain ⟨blk, off, e, hc⟩ := h i hi
  exact ⟨blk, off, e, ht.cell hc (hT blk off e)⟩
theorem Texts.touch {w w' : World} {a : Option Addr} {ss : List ByteArray} (h : Texts w a ss) (ht : Touch [] w w') : Texts w' a ss := h.far ht (by simp)
/-- .. in a block of texts -/
def TextsB (w : World) (a : Option Addr) (ss : List ByteArray) : Prop := ss = [] ∨ ∃ blk off cs, a = some ⟨blk, off, none⟩ ∧ Blk w blk 9 cs ∧ ∀ i (h : i < ss.length), cs[off + i]? = some (.string ss[i])
theorem TextsB.texts {w : World} {a : Option Addr} {ss : List ByteArray} (h : TextsB w a ss) : Texts w a ss := fun i hi => by
  rcases h with rfl | ⟨blk, off, cs, e, hb, hc⟩
  · exact absurd hi (Nat.not_lt_zero _)
  · exact ⟨blk, off, e, (hb.cell _).trans (hc i hi)⟩
theorem TextsB.keep {w w' : World} {a : Option Addr} {ss : List ByteArray} {ts : List TypeId} (h : TextsB w a ss) (hk : KeepBut ts w w') (ht : 9 ∉ ts) : TextsB w' a ss := by
  rcases h with h | ⟨blk, off, cs, e, hb, hc⟩
  · exact .inl h
  · exact .inr ⟨blk, off, cs, e, hk _ _ _ hb ht, hc⟩
theorem TextsB.touch {w w' : World} {a : Option Addr} {ss : List ByteArray} (h : TextsB w a ss) (ht : Touch [] w w') : TextsB w' a ss := h.keep (KeepBut.touch [] ht) (by simp)
/-- a row of one's own is one -/
theorem StrRow.open' {w : World} {B : Nat} {v : Value} {l : List ByteArray} (h : StrRow w B v l) : ∃ a cap, v = .slice a l.length cap ∧ (l.length ≤ cap ∧ (a = none → cap = 0)) ∧ cap ≤ maxLen ∧ TextsB w a l := by
  obtain ⟨hl, hr⟩ := h
  rcases hr with ⟨rfl, h2⟩ | ⟨g, cap, cur, rfl, h1, h2, h3, h4, h5, h6⟩
  · exact ⟨none, 0, by rw [h2], ⟨by omega, fun _ => rfl⟩, Nat.zero_le _, .inl (List.length_eq_zero_iff.1 h2)⟩
  · refine ⟨_, cap, rfl, ⟨h3, fun h => by cases h⟩, h4, .inr ⟨g, 0, cur, rfl, h2, fun i hi => ?_⟩⟩
    have : (l.map Value.string)[i]? = some (.string l[i]) := by rw [List.getElem?_map, List.getElem?_eq_getElem hi]; rfl
    rw [← h6, List.getElem?_take] at this
    split at this
    · rw [Nat.zero_add]; simpa using this
    · cases this
theorem StrRow.open {w : World} {B : Nat} {v : Value} {l : List ByteArray} (h : StrRow w B v l) : ∃ a cap, v = .slice a l.length cap ∧ l.length ≤ cap ∧ cap ≤ maxLen ∧ TextsB w a l := by
  obtain ⟨hl, hr⟩ := h
  rcases hr with ⟨rfl, h2⟩ | ⟨g, cap, cur, rfl, h1, h2, h3, h4, h5, h6⟩
  · exact ⟨none, 0, by rw [h2], by omega, Nat.zero_le _, .inl (List.length_eq_zero_iff.1 h2)⟩
  · refine ⟨_, cap, rfl, h3, h4, .inr ⟨g, 0, cur, rfl, h2, fun i hi => ?_⟩⟩
    have : (l.map Value.string)[i]? = some (.string l[i]) := by rw [List.getElem?_map, List.getElem?_eq_getElem hi]; rfl
    rw [← h6, List.getElem?_take] at this
    split at this
    · rw [Nat.zero_add]; simpa using this
    · cases this
end Go.Proofs.YtmglkhnojimnlaaGreat

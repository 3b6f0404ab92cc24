/- law10: short, few, same, prefix. -/
import Derived.Test.YtmglkhnojimnlaaWalOwn
import Derived.BigQuiet
namespace Go.Proofs.Ytmglkhnojimnlaa
open Go.RowKit Go.Maps

def cutS (s : ByteArray) (k : Nat) : ByteArray := if k < s.size then s.extract 0 k else s
theorem cutS_size (s : ByteArray) (k : Nat) : (cutS s k).size ≤ k ∧ (cutS s k).size ≤ s.size := by
  unfold cutS
  split
  · rw [ByteArray.size_extract]; omega
  · omega
theorem short_any (w : World) (s : ByteArray) (k : Nat) (hs : s.size ≤ maxLen) (hk : k ≤ 1099511627776) :
    Calls Try.prog 10 #[.string s, .int .i64 (k : Int)] w fun e w' => e = .returned (.string (cutS s k)) ∧ w' = w := by
  unfold maxLen at hs
  by_cases h : k < s.size
  · have e : cutS s k = s.extract 0 k := by unfold cutS; rw [if_pos h]
    rw [e]
    clear e
    have h' : (k : Int) < (s.size : Int) := by omega
    go_enter Try.func10, Try.ntmps10
    go_wp2
    go_ret
    exact ⟨rfl, rfl⟩
  · have e : cutS s k = s := by unfold cutS; rw [if_neg h]
    rw [e]
    clear e
    have h' : ¬ (k : Int) < (s.size : Int) := by omega
    go_enter Try.func10, Try.ntmps10
    go_wp2
    go_ret
    exact ⟨rfl, rfl⟩
/-- at most 8 texts, of 200 bytes at most -/
def fewL (ss : List ByteArray) : List ByteArray := (ss.take 8).map (fun s => cutS s 200)
theorem fewL_len (ss : List ByteArray) : (fewL ss).length ≤ 8 := by simp [fewL]; omega
theorem fewL_each (ss : List ByteArray) : ∀ s ∈ fewL ss, s.size ≤ 200 := fun s hs => by
  simp only [fewL, List.mem_map] at hs
  obtain ⟨t, _, rfl⟩ := hs
  exact (cutS_size t 200).1
theorem lens_few : ∀ (l : List WM.Bs) (k : Nat), (∀ s ∈ l, s.length ≤ k) → (WM.all l).length ≤ l.length * (8 + k)
  | [], k, _ => by simp [WM.all]
  | s :: l, k, h => by
    have h1 := lens_few l k (fun x hx => h x (by simp [hx]))
    have h2 := h s (by simp)
    rw [WM.all_cons, List.length_append, WM.rec_length, List.length_cons, Nat.succ_mul]
    omega
theorem fewL_fits (ss : List ByteArray) : WM.Fits ((fewL ss).map bs) ∧ (WM.all ((fewL ss).map bs)).length ≤ 1664 := by
  have h : ∀ s ∈ (fewL ss).map bs, s.length ≤ 200 := fun s hs => by
    simp only [List.mem_map] at hs
    obtain ⟨t, ht, rfl⟩ := hs
    rw [bs_length]
    exact fewL_each ss t ht
  refine ⟨fun s hs => by have := h s hs; omega, ?_⟩
  have h1 := lens_few _ 200 h
  have h2 := fewL_len ss
  rw [List.length_map] at h1
  have h3 : (fewL ss).length * 208 ≤ 8 * 208 := Nat.mul_le_mul_right _ h2
  omega
set_option maxRecDepth 10000 in
set_option maxHeartbeats 800000 in
theorem few_any (w : World) (a : Option Addr) (cap : Nat) (ss : List ByteArray) (ht : Texts w a ss) (hl : ss.length ≤ maxLen) (hs : ∀ s ∈ ss, s.size ≤ maxLen) :
    Calls Try.prog 16 #[.slice a ss.length cap] w fun e w' => ∃ v, e = .returned v ∧ StrRow w' w.heap.size v (fewL ss) ∧ Touch [] w w' := by
  unfold maxLen at hl
  have hlb : (ss.length : Int) ≤ 9223372036854775807 := by omega
  have HT := Lib.hid ht
  have HS := Lib.hid hs
  obtain ⟨i0, hi, hz0, hz1, hz2⟩ := info_parts infoStr
  have HI := Lib.hid (And.intro hi (And.intro hz0 (And.intro hz1 hz2)))
  clear ht hs hi hz0 hz1 hz2 hl
  go_enter Try.func16, Try.ntmps16
  go_wp2_with fail
  go_loopw [3, 4] (fun s3 u wr => ∃ (i : Nat) (v : Value), v = s3 ∧ i ≤ ss.length ∧ i ≤ 8 ∧ u = .int .i64 i ∧ StrRow wr w.heap.size v ((ss.take i).map (fun s => cutS s 200)) ∧ Touch [] w wr) (fun _ u _ => 8 - (intOf u).toNat)
  case atStart => exact ⟨0, _, rfl, Nat.zero_le _, by omega, rfl, StrRow.nil _ _, Touch.refl _ _⟩
  case round =>
    obtain ⟨i, v, rfl, hi, hi8, rfl, hR, hT⟩ := hrel
    have HR := Lib.hid hR
    have HTT := Lib.hid hT
    by_cases hlt : i < ss.length ∧ i < 8
    · obtain ⟨hlt, h8⟩ := hlt
      have h8I : (i : Int) < 8 := by omega
      obtain ⟨blk, off, rfl, hc⟩ := HT.out i hlt
      have hcr := hT.cell hc (by simp)
      have hsh := fun W => short_any W ss[i] 200 (HS.out _ (List.getElem_mem _)) (by omega)
      have hlast : (ss.take i).map (fun s => cutS s 200) ++ [cutS ss[i] 200] = (ss.take (i + 1)).map (fun s => cutS s 200) := by
        rw [List.take_succ_eq_append_getElem hlt, List.map_append]; rfl
      have hln : ((ss.take i).map (fun s => cutS s 200)).length = i := by simp; omega
      obtain ⟨xs, hxs⟩ : ∃ xs, xs = (ss.take i).map (fun s => cutS s 200) := ⟨_, rfl⟩
      obtain ⟨s, hse⟩ : ∃ s, s = ss[i] := ⟨_, rfl⟩
      rw [← hse] at hsh hlast hcr
      rw [← hxs] at hlast hln HR
      obtain ⟨t, hte⟩ : ∃ t, t = cutS s 200 := ⟨_, rfl⟩
      rw [← hte] at hsh hlast
      have hrow : wr.ownsRow w.heap.size 9 1 v i (xs.map .string) := by have := HR.out; unfold StrRow at this; rwa [hln] at this
      have HROW := Lib.hid hrow
      have HSH := Lib.hid hsh
      have HLAST := Lib.hid hlast
      have HLN := Lib.hid hln
      clear hR hT hc hsh hlast hxs hse hte hrow hln
      go_wp2_with (first | (go_at_call 10; refine (HSH.out _).mono ?_; rintro e w1 ⟨rfl, rfl⟩) | (at_builtin; refine wpList_append_own _ rfl (.tmp 15) (.tmp 21) 27 rfl w.heap.size 9 i0 _ 1 16 Try.underlying27 HI.out.1 HI.out.2.1 HI.out.2.2.1 HI.out.2.2.2 rfl (by decide) v i _ rfl (HROW.out.alloc _) ⟨w1.heap.size, 0, none⟩ 1 1 [.string t] rfl rfl (cell_one_new _ _ _) (by simp [Value.oneCell']) (by unfold maxLen; omega) (by omega) (by have := HTT.out.size; simp; omega) ?_; intro v' w2 hown' hgrow _; obtain ⟨g', cap', rfl⟩ := ownsRow_succ hown'))
      have T2 : Touch [] w w2 := (HTT.out.alloc _).trans (Touch.of_grown hgrow) (fun k hk => .inr (HROW.out.lt k (by simpa using hk)).1)
      have hR2 : StrRow w2 w.heap.size (.slice (some ⟨g', 0, none⟩) (i + 1) cap') ((ss.take (i + 1)).map (fun s => cutS s 200)) := by
        rw [← HLAST.out]
        unfold StrRow
        rw [List.map_append, List.length_append, HLN.out]
        exact hown'
      have HR2 := Lib.hid hR2
      have HT2 := Lib.hid T2
      clear hR2 T2 hown' hgrow
      go_roundw
      case rel => exact ⟨i + 1, _, rfl, by omega, by omega, by go_num, HR2.out, HT2.out⟩
      case measure => simp [intOf]; omega
    · have hie : fewL ss = (ss.take i).map (fun s => cutS s 200) := by
        unfold fewL
        rcases Nat.lt_or_ge i 8 with h | h
        · rw [List.take_of_length_le (show ss.length ≤ 8 by omega), List.take_of_length_le (show ss.length ≤ i by omega)]
        · obtain rfl : i = 8 := by omega
          rfl
      rw [← hie] at HR
      have hne : ¬ ((i : Int) < (ss.length : Int) ∧ (i : Int) < 8) := by omega
      clear hie hR hT
      by_cases h2 : i < ss.length
      all_goals
        go_wp2_with fail
        go_ret
        exact ⟨_, rfl, HR.out, HTT.out⟩
end Go.Proofs.Ytmglkhnojimnlaa

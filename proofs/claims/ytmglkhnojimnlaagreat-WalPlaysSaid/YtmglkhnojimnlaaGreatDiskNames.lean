/- Package disk: Names, Used, Limit, Steps, Arm, On. -/
import Derived.Test.YtmglkhnojimnlaaGreatDiskMay
import Derived.Test.YtmglkhnojimnlaaGreatShelf
namespace Go.Proofs.YtmglkhnojimnlaaGreat
open Go.RowKit Go.Maps Go.WideMaps Go.Sort Go.Shelf Go.Lib
open DM (N F FL Sorted)

theorem sortsF (m : Nat) : AnyZ.SortsIn Tryz.prog Tryz.sortedF_ren Fence.wide m :=
  ⟨fun blk off cap ss W hH hblk hsz => callsIn_wide.2 (AnyM.slices_Sort_string Tryz.sortF blk off cap ss W hH hblk hsz),
   fun p cap W => callsIn_wide.2 (AnyM.slices_Sort_string_none Tryz.sortF p cap W)⟩

/-- the string of a name -/
def str (k : N) : ByteArray := ⟨k.toArray⟩
theorem nm_str (k : N) : nm (str k) = k := by simp [nm, str]
theorem str_nm (s : ByteArray) : str (nm s) = s := by apply bytes_inj; simp [str, nm]
theorem str_size (k : N) : (str k).size = k.length := by simp [str, ByteArray.size]

/-- a slice value that holds these strings -/
def SliceS (w : World) (a : Option Addr) (ss : List N) : Prop :=
  ss = [] ∨ ∃ g, a = some ⟨g, 0, none⟩ ∧ ∀ (i : Nat) (h : i < ss.length), w.cell? ⟨g, i, none⟩ = some (.string (str ss[i]))
theorem SliceS.touch {w w' : World} {a : Option Addr} {ss : List N} (h : SliceS w a ss) (ht : Touch [] w w') : SliceS w' a ss := by
  rcases h with h | ⟨g, h1, h2⟩
  · exact .inl h
  · exact .inr ⟨g, h1, fun i hi => (World.cell?_of_block (ht.block g (cell_lt' (h2 i hi)) (by simp))).trans (h2 i hi)⟩

def NamesEnd (l : FL) (w : World) (e : Ending) (w' : World) : Prop :=
  ∃ (a : Option Addr) (cap : Nat), e = .returned (.slice a (DM.names l).length cap) ∧ SliceS w' a (DM.names l) ∧ Touch [] w w'

theorem keys_ofF {w : World} {mb n : Nat} {Dm : DataW Unit} {l : FL} (hown : w.ownsMap Tryz.prog 9 RF mb n Dm) (hv : ViewF Dm l) (hs : Sorted l) : (strKeys Dm).Perm (DM.names l) := by
  obtain ⟨es, rfl, hap, _⟩ := hown.entries kstr
  have hk : ∀ p ∈ es, ∃ x, p.1 = .string x := by
    obtain ⟨es', he, hk⟩ := hown.keysOf
    injection he with he
    subst he
    intro p hp
    obtain ⟨v, hv⟩ := hk p hp
    obtain ⟨x, _, h2, _⟩ := Maps.keyOf_str Tryz.underlying9 hv
    exact ⟨x, h2⟩
  refine (perm_strKeys hap hk ?_ fun x => ?_).symm
  · exact hs.imp (fun h => h.2)
  · rw [hv.has, ← DM.look_names]
    cases DM.look l x <;> simp

theorem names_sort {ss : List N} {l : FL} (hp : ss.Perm (DM.names l)) (hs : Sorted l) : ss.mergeSort (fun x y => decide (x ≤ y)) = DM.names l := by
  have h1 : ss.mergeSort leB = (DM.names l).mergeSort leB := mergeSort_of_perm hp
  rw [show (fun x y : N => decide (x ≤ y)) = leB from rfl, h1]
  refine List.mergeSort_of_pairwise (hs.imp (fun h => ?_))
  simpa [leB] using h.1

set_option maxRecDepth 100000 in
set_option maxHeartbeats 2000000 in
theorem names_some (w : World) (b mb n : Nat) (d : DM.D) (h : DiskAt w b (some mb) n d) (hn : n < 1099511627776) :
    Calls Tryz.prog 34 #[.pointer (some ⟨b, 0, none⟩)] w (NamesEnd d.fl w) := by
  obtain ⟨Dm, hown, hv⟩ : ∃ Dm, w.ownsMap Tryz.prog 9 RF mb n Dm ∧ ViewF Dm d.fl := by
    rcases h.map with ⟨h, _⟩ | ⟨mb', D, e, h1, h2⟩
    · cases h
    · cases e; exact ⟨D, h1, h2⟩
  have hsz := hown.size_le
  have hK := keys_ofF hown hv h.fit.sorted
  have c1 := h.c1
  refine (callsIn_wide (n := 6)).1 ?_
  have cK : ∀ mb W, CallsIn Fence.wide 5 Tryz.prog 70 #[.map mb] W fun e w' => e = .returned (.func (.func 92) #[] #[.pointer (some ⟨W.heap.size, 0, none⟩)]) ∧ w' = W.alloc (.cells #[.map mb] 53) := fun mb W => AnyZ.keys_in Tryz.keysF Fence.wide 5 trivial rfl mb W
  have hfK : Fence.wide.fn 70 := trivial
  have hfS : Fence.wide.fn 69 := trivial
  have hbl := hown.lt
  have hseq : SeqGives Fence.wide 2 Tryz.prog 92 #[.pointer (some ⟨w.heap.size, 0, none⟩)] encStr (fun ss => ss.Perm (strKeys Dm)) (Maps.size Dm) (w.alloc (.cells #[.map (some mb)] 53)) :=
    AnyZ.keys_gives (ρ := Tryz.keysF_ren) { Tryz.keysF with } Fence.wide _ trivial rfl (by omega) w.heap.size mb n Dm _ (by simp) (by simp) (by
      obtain ⟨es, clock, hb, Ft, hs, hD⟩ := hown
      exact ⟨es, clock, (heap_old w _ hbl).trans hb, Ft, hs, hD⟩)
  have cS := AnyZ.sorted_in Tryz.sortedF Fence.wide 5 trivial trivial trivial trivial rfl (by omega) (sortsF _) (enters_of Tryz.func91 (by kernel_rfl) rfl) 92 #[.pointer (some ⟨w.heap.size, 0, none⟩)] trivial (enters_of Tryz.func92 (by kernel_rfl) rfl) _ _ (by unfold maxLen; omega) (by omega) _ hseq
  change CallsIn _ _ Tryz.prog 69 _ _ _ at cS
  have HK := Lib.hid hK
  have HSo := Lib.hid h.fit.sorted
  clear hseq hsz hK hn
  refine callsIn_of_wp Tryz.func34 rfl trivial ?_ rfl
  simp only [Tryz.ntmps34, List.size_toArray, List.length_cons, List.length_nil, Nat.reduceAdd, Nat.reduceSub, Array.replicate_succ, Array.replicate_zero, List.push_toArray, List.append_toArray, List.nil_append, List.cons_append]
  gi_wp2_with fail
  refine (cK _ _).mono ?_
  rintro e w1 ⟨rfl, rfl⟩
  gi_wp2_with fail
  refine cS.mono ?_
  clear cS cK
  rintro e w2 ⟨v, ss, rfl, hS, hrow, hnil, hbel⟩
  have HS := Lib.hid hS
  have HN := Lib.hid hnil
  clear hS hnil
  gi_wp2_with fail
  go_ret
  have hT : Touch [] w w2 := ((Touch.refl [] w).alloc _).trans (Touch.of_below hbel) (by simp)
  have hsort := names_sort (HS.out.trans HK.out) HSo.out
  have hlen : ss.length = (DM.names d.fl).length := (HS.out.trans HK.out).length_eq
  rw [hsort, hlen] at hrow
  rcases hrow.2 with ⟨rfl, h0⟩ | ⟨g, cap, cur, rfl, hgb, hgh, hcap, hcm, hcs, htk⟩
  · exact ⟨none, 0, by rw [h0]; rfl, .inl (List.length_eq_zero_iff.1 h0), hT⟩
  · refine ⟨_, cap, rfl, .inr ⟨g, rfl, fun i hi => ?_⟩, hT⟩
    rw [Blk.cell (show Blk w2 g 9 cur from hgh)]
    have h1 : (cur.toList.take ((DM.names d.fl).length * 1))[i]? = ((DM.names d.fl).map encStr)[i]? := by rw [htk]
    rw [List.getElem?_take_of_lt (by omega)] at h1
    rw [← Array.getElem?_toList, h1, List.getElem?_map, List.getElem?_eq_getElem hi]
    rfl

set_option maxRecDepth 100000 in
set_option maxHeartbeats 2000000 in
theorem names_none (w : World) (b n : Nat) (d : DM.D) (h : DiskAt w b none n d) :
    Calls Tryz.prog 34 #[.pointer (some ⟨b, 0, none⟩)] w (NamesEnd d.fl w) := by
  have hfl : d.fl = [] := by
    rcases h.map with ⟨_, h⟩ | ⟨_, _, e, _⟩
    · exact h
    · cases e
  have c1 := h.c1
  refine (callsIn_wide (n := 6)).1 ?_
  have cK : ∀ mb W, CallsIn Fence.wide 5 Tryz.prog 70 #[.map mb] W fun e w' => e = .returned (.func (.func 92) #[] #[.pointer (some ⟨W.heap.size, 0, none⟩)]) ∧ w' = W.alloc (.cells #[.map mb] 53) := fun mb W => AnyZ.keys_in Tryz.keysF Fence.wide 5 trivial rfl mb W
  have hfK : Fence.wide.fn 70 := trivial
  have hfS : Fence.wide.fn 69 := trivial
  have hseq : SeqGives Fence.wide 2 Tryz.prog 92 #[.pointer (some ⟨w.heap.size, 0, none⟩)] encStr (fun ss : List N => ss = []) 0 (w.alloc (.cells #[.map none] 53)) :=
    AnyZ.keys_gives_nil (ρ := Tryz.keysF_ren) { Tryz.keysF with } Fence.wide _ trivial rfl w.heap.size _ (by simp) (by simp)
  have cS := AnyZ.sorted_in Tryz.sortedF Fence.wide 5 trivial trivial trivial trivial rfl (by omega) (sortsF _) (enters_of Tryz.func91 (by kernel_rfl) rfl) 92 #[.pointer (some ⟨w.heap.size, 0, none⟩)] trivial (enters_of Tryz.func92 (by kernel_rfl) rfl) _ 0 (Nat.zero_le _) (by omega) _ hseq
  change CallsIn _ _ Tryz.prog 69 _ _ _ at cS
  have HF := Lib.hid hfl
  clear hseq hfl
  refine callsIn_of_wp Tryz.func34 rfl trivial ?_ rfl
  simp only [Tryz.ntmps34, List.size_toArray, List.length_cons, List.length_nil, Nat.reduceAdd, Nat.reduceSub, Array.replicate_succ, Array.replicate_zero, List.push_toArray, List.append_toArray, List.nil_append, List.cons_append]
  gi_wp2_with fail
  refine (cK _ _).mono ?_
  rintro e w1 ⟨rfl, rfl⟩
  gi_wp2_with fail
  refine cS.mono ?_
  clear cS cK
  rintro e w2 ⟨v, ss, rfl, rfl, hrow, hnil, hbel⟩
  obtain rfl : v = .slice none 0 0 := hnil.2 rfl
  clear hnil
  gi_wp2_with fail
  go_ret
  rw [show d.fl = [] from HF.out]
  exact ⟨none, 0, rfl, .inl rfl, ((Touch.refl [] w).alloc _).trans (Touch.of_below hbel) (by simp)⟩

theorem names_any (w : World) (b n : Nat) (mo : Option Nat) (d : DM.D) (h : DiskAt w b mo n d) (hn : n < 1099511627776) :
    Calls Tryz.prog 34 #[.pointer (some ⟨b, 0, none⟩)] w (NamesEnd d.fl w) := by
  cases mo with
  | none => exact names_none w b n d h
  | some mb => exact names_some w b mb n d h hn
theorem names_nil (w : World) : Calls Tryz.prog 34 #[.pointer none] w fun e w' => e = .returned (.slice none 0 0) ∧ w' = w := by
  go_enter Tryz.func34, Tryz.ntmps34
  go_wp2
  go_ret
  exact ⟨rfl, rfl⟩

/-- the bytes of the first files -/
def usedTo (l : FL) (i : Nat) : Nat := DM.used (l.take i)
theorem used_append : ∀ (l l' : FL), DM.used (l ++ l') = DM.used l + DM.used l'
  | [], l' => by simp [DM.used]
  | p :: l, l' => by simp only [List.cons_append, DM.used, used_append l l']; omega
theorem usedTo_succ (l : FL) (i : Nat) (h : i < l.length) : usedTo l (i + 1) = usedTo l i + l[i].2.1.size := by
  unfold usedTo
  rw [List.take_succ_eq_append_getElem h, used_append]
  simp [DM.used]
theorem usedTo_le (l : FL) (i : Nat) : usedTo l i ≤ DM.used l := by
  unfold usedTo
  conv => rhs; rw [← List.take_append_drop i l]
  rw [used_append]; omega
theorem look_at : ∀ {l : FL}, Sorted l → ∀ (i : Nat) (h : i < l.length), DM.look l l[i].1 = some l[i].2
  | p :: l, hs, 0, _ => by simp [DM.look]
  | p :: l, hs, i + 1, h => by
    have h' : i < l.length := by simpa using h
    have := hs.head l[i].1 (List.mem_map.2 ⟨l[i], List.getElem_mem h', rfl⟩)
    simp only [List.getElem_cons_succ]
    unfold DM.look
    rw [if_neg this.2]
    exact look_at hs.tail i h'

theorem field0 (s : ByteArray) (k : Int) (w : World) : (Instr.field 66 (.agg #[.string s, .int .i64 k]) 0).run Tryz.prog w = .ok (.string s) w := by kernel_rfl

set_option maxRecDepth 10000 in
set_option maxHeartbeats 400000 in
theorem used_any (w : World) (b n : Nat) (mo : Option Nat) (d : DM.D) (h : DiskAt w b mo n d) (hn : n < 1099511627776) :
    Calls Tryz.prog 10 #[.pointer (some ⟨b, 0, none⟩)] w fun e w' => e = .returned (.int .i64 (DM.used d.fl)) ∧ Touch [] w w' := by
  have hna := names_any w b n mo d h hn
  have HNA := Lib.hid hna
  have hfit := h.fit
  have hlen := hfit.len
  have hsm := hfit.small
  have HS := Lib.hid hfit.sorted
  have HE := Lib.hid hfit.each
  have hnl : (DM.names d.fl).length = d.fl.length := by simp [DM.names]
  have HNL := Lib.hid hnl
  have HN := Lib.hid hn
  have HSM := Lib.hid hsm
  clear hna hfit hn hsm hnl
  go_enter Tryz.func10, Tryz.ntmps10
  go_wp2_with fail
  refine HNA.out.mono ?_
  rintro e w1 ⟨a, cap, rfl, hsl, T1⟩
  have h1 := h.touch T1 (by simp) (by simp)
  rw [HNL.out]
  have hlb : d.fl.length ≤ 1099511627776 := by have := HN.out; omega
  have HLB := Lib.hid hlb
  clear hlb hlen
  go_wp2_with fail
  go_loop [3, 9] (fun u v => ∃ i : Nat, i ≤ d.fl.length ∧ u = .int .i64 (usedTo d.fl i : Int) ∧ v = .int .i64 i) (fun _ v => d.fl.length - (intOf v).toNat)
  case atStart => exact ⟨0, Nat.zero_le _, by simp [usedTo, DM.used], rfl⟩
  case round =>
    obtain ⟨i, hi, rfl, rfl⟩ := hrel
    have hlb' : (d.fl.length : Int) ≤ 1099511627776 := by have := HLB.out; omega
    by_cases hlt : i < d.fl.length
    · obtain ⟨g, rfl, hc⟩ : ∃ g, a = some ⟨g, 0, none⟩ ∧ w1.cell? ⟨g, i, none⟩ = some (.string (str d.fl[i].1)) := by
        rcases hsl with h0 | ⟨g, e, hc⟩
        · have : (DM.names d.fl).length = 0 := by rw [h0]; rfl
          rw [HNL.out] at this; omega
        · refine ⟨g, e, ?_⟩
          have := hc i (by rw [HNL.out]; exact hlt)
          simpa [DM.names] using this
      have hkl := (HE.out _ (List.getElem_mem hlt)).2
      have hlk := h1.map.look1 (str d.fl[i].1) (by rw [str_size]; unfold maxLen; omega)
      have hg : DM.getF d.fl (nm (str d.fl[i].1)) = d.fl[i].2 := by rw [nm_str]; unfold DM.getF; rw [look_at HS.out i hlt]; rfl
      rw [hg] at hlk
      have hfv : fileV d.fl[i].2 = .agg #[.string d.fl[i].2.1, .int .i64 (d.fl[i].2.2 : Int)] := rfl
      rw [hfv] at hlk
      have hsu := usedTo_succ d.fl i hlt
      have hle := usedTo_le d.fl (i + 1)
      have hu2 : (usedTo d.fl i : Int) + (d.fl[i].2.1.size : Int) ≤ 1099511627776 := by have := HSM.out; omega
      have hu3 : (0 : Int) ≤ (usedTo d.fl i : Int) := by omega
      have HU := Lib.hid hsu
      have c1 := h1.c1
      obtain ⟨ks, hks⟩ : ∃ ks, ks = str d.fl[i].1 := ⟨_, rfl⟩
      obtain ⟨fd, hfd⟩ : ∃ fd, fd = d.fl[i].2.1 := ⟨_, rfl⟩
      obtain ⟨fl, hfl⟩ : ∃ fl : Nat, fl = d.fl[i].2.2 := ⟨_, rfl⟩
      rw [← hks] at hc hlk
      rw [← hfd] at hu2 hlk HU
      rw [← hfl] at hlk
      clear hg hfv hsu hle hks hfd hfl hkl
      have hfld := field0
      go_wp2
      go_round
      case rel => exact ⟨i + 1, by omega, by rw [HU.out]; go_num, by go_num⟩
      case measure => simp [intOf]; omega
    · have hie : i = d.fl.length := by omega
      have hfin : (usedTo d.fl i) = DM.used d.fl := by rw [hie]; unfold usedTo; rw [List.take_length]
      have HF := Lib.hid hfin
      clear hfin hie
      go_wp2
      go_ret
      exact ⟨ret_int (by rw [HF.out]), T1⟩

theorem used_nil (w : World) : Calls Tryz.prog 10 #[.pointer none] w fun e w' => e = .returned (.int .i64 0) ∧ w' = w := by
  go_enter Tryz.func10, Tryz.ntmps10
  go_wp2_with fail
  refine (names_nil _).mono ?_
  rintro e w1 ⟨rfl, rfl⟩
  go_wp2_with fail
  refine wp_loop_rounds 1 ?_
  rw [rounds_succ]
  go_wp2
  go_ret
  exact ⟨rfl, rfl⟩

theorem limit_any (w : World) (b n : Nat) (mo : Option Nat) (d : DM.D) (h : DiskAt w b mo n d) (k : Int) (hk : (Lit.int .i64 k).wf = true) :
    Calls Tryz.prog 29 #[.pointer (some ⟨b, 0, none⟩), .int .i64 k] w fun e w' => e = .returned (.tuple #[]) ∧ DiskAt w' b mo n (DM.limit d k) ∧ Touch [b] w w' := by
  have c0 := h.c0
  have f0 := h.blk.frozen 0
  have hb := (wf64_le hk).2
  have hset : ∀ x : Int, x = max k 0 → DiskAt (w.setCell ⟨b, 0, none⟩ (.int .i64 x)) b mo n (DM.limit d k) := fun x e => by
    have ht : Touch [b] w (w.setCell ⟨b, 0, none⟩ (.int .i64 x)) := (Touch.refl _ _).setCell _ _ (.inl (by simp))
    have e2 : DM.limit d k = { d with room := x } := by unfold DM.limit; rw [e]
    rw [e2]
    exact h.own ht (h.blk.set_ 0 _) ⟨by simp; omega, by simp; omega⟩ h.left h.done rfl (Nat.le_refl _)
  have HS := Lib.hid hset
  clear hset
  have ht : ∀ x : Int, Touch [b] w (w.setCell ⟨b, 0, none⟩ (.int .i64 x)) := fun x => (Touch.refl _ _).setCell _ _ (.inl (by simp))
  have HT := Lib.hid ht
  clear ht
  by_cases h0 : k < 0
  all_goals
    go_enter Tryz.func29, Tryz.ntmps29
    go_wp2
    go_end0
    exact ⟨rfl, HS.out _ (by omega), HT.out _⟩
theorem limit_nil (w : World) (k : Int) : Calls Tryz.prog 29 #[.pointer none, .int .i64 k] w fun e w' => e = .returned (.tuple #[]) ∧ w' = w := by
  go_enter Tryz.func29, Tryz.ntmps29
  go_wp2
  go_end0
  exact ⟨rfl, rfl⟩

theorem arm_any (w : World) (b n : Nat) (mo : Option Nat) (d : DM.D) (h : DiskAt w b mo n d) (k : Int) :
    Calls Tryz.prog 27 #[.pointer (some ⟨b, 0, none⟩), .int .i64 k] w fun e w' => e = .returned (.tuple #[]) ∧ DiskAt w' b mo n (DM.arm d k) ∧ Touch [b] w w' := by
  have c3 := h.c3
  have f3 := h.blk.frozen 3
  have hset : ∀ x : Int, 0 ≤ x → x ≤ 4611686018427387905 → x = min (max k 0) 4611686018427387904 + 1 → DiskAt (w.setCell ⟨b, 3, none⟩ (.int .i64 x)) b mo n (DM.arm d k) := fun x h0 h1 e => by
    have ht : Touch [b] w (w.setCell ⟨b, 3, none⟩ (.int .i64 x)) := (Touch.refl _ _).setCell _ _ (.inl (by simp))
    have e2 : DM.arm d k = { d with left := x } := by unfold DM.arm; rw [e]
    rw [e2]
    exact h.own ht (h.blk.set_ 3 _) h.room ⟨h0, h1⟩ h.done rfl (Nat.le_refl _)
  have HS := Lib.hid hset
  clear hset
  have ht : ∀ x : Int, Touch [b] w (w.setCell ⟨b, 3, none⟩ (.int .i64 x)) := fun x => (Touch.refl _ _).setCell _ _ (.inl (by simp))
  have HT := Lib.hid ht
  clear ht
  by_cases h0 : k < 0
  · go_enter Tryz.func27, Tryz.ntmps27
    go_wp2
    go_end0
    exact ⟨rfl, HS.out _ (by omega) (by omega) (by omega), HT.out _⟩
  · by_cases h1 : 4611686018427387904 < k
    · go_enter Tryz.func27, Tryz.ntmps27
      go_wp2
      go_end0
      exact ⟨rfl, HS.out _ (by omega) (by omega) (by omega), HT.out _⟩
    · go_enter Tryz.func27, Tryz.ntmps27
      go_wp2
      go_end0
      exact ⟨rfl, HS.out _ (by omega) (by omega) (by omega), HT.out _⟩
theorem arm_nil (w : World) (k : Int) : Calls Tryz.prog 27 #[.pointer none, .int .i64 k] w fun e w' => e = .returned (.tuple #[]) ∧ w' = w := by
  go_enter Tryz.func27, Tryz.ntmps27
  go_wp2
  go_end0
  exact ⟨rfl, rfl⟩
theorem steps_any (w : World) (b n : Nat) (mo : Option Nat) (d : DM.D) (h : DiskAt w b mo n d) :
    Calls Tryz.prog 9 #[.pointer (some ⟨b, 0, none⟩)] w fun e w' => e = .returned (.int .i64 d.done) ∧ w' = w := by
  have c4 := h.c4
  go_enter Tryz.func9, Tryz.ntmps9
  go_wp2
  go_ret
  exact ⟨rfl, rfl⟩
theorem steps_nil (w : World) : Calls Tryz.prog 9 #[.pointer none] w fun e w' => e = .returned (.int .i64 0) ∧ w' = w := by
  go_enter Tryz.func9, Tryz.ntmps9
  go_wp2
  go_ret
  exact ⟨rfl, rfl⟩
theorem on_any (w : World) (b n : Nat) (mo : Option Nat) (d : DM.D) (h : DiskAt w b mo n d) :
    Calls Tryz.prog 38 #[.pointer (some ⟨b, 0, none⟩)] w fun e w' => e = .returned (.bool (!d.off)) ∧ w' = w := by
  have c2 := h.c2
  go_enter Tryz.func38, Tryz.ntmps38
  go_wp2
  go_ret
  exact ⟨rfl, rfl⟩
theorem on_nil (w : World) : Calls Tryz.prog 38 #[.pointer none] w fun e w' => e = .returned (.bool false) ∧ w' = w := by
  go_enter Tryz.func38, Tryz.ntmps38
  go_wp2
  go_ret
  exact ⟨rfl, rfl⟩
end Go.Proofs.YtmglkhnojimnlaaGreat

import Derived.Test.YtmglkhnojimnlaaGreatCrc
import Derived.Test.YtmglkhnojimnlaaGreatWal1
import Derived.BigQuiet
import Derived.Test.YtmglkhnojimnlaaGreatWal11
import Derived.Test.YtmglkhnojimnlaaGreatWalL
import Derived.Test.YtmglkhnojimnlaaGreatDiskRef6
import Derived.Test.YtmglkhnojimnlaaGreatWal5
import Derived.Laws.AppendOwnNone

/- The sums of the document, as plain data: eight steps behind a byte are the table's step. No program here. -/
namespace Go.Proofs.YtmglkhnojimnlaaGreat.WM

theorem st_xor (a b : Nat) : st (a ^^^ b) = st a ^^^ st b := by
  unfold st
  rw [Nat.shiftRight_xor_distrib]
  have h2 := Nat.xor_mod_two_eq_one (a := a) (b := b)
  by_cases ha : a % 2 = 1
  · by_cases hb : b % 2 = 1
    · rw [if_pos ha, if_pos hb, if_neg (by rw [h2]; simp [ha, hb])]
      rw [Nat.xor_zero, Nat.xor_assoc]
      congr 1
      rw [Nat.xor_comm 3988292384, Nat.xor_assoc, Nat.xor_self, Nat.xor_zero]
    · rw [if_pos ha, if_neg hb, if_pos (by rw [h2]; simp [ha, hb])]
      rw [Nat.xor_zero, Nat.xor_assoc, Nat.xor_assoc, Nat.xor_comm (b >>> 1)]
  · by_cases hb : b % 2 = 1
    · rw [if_neg ha, if_pos hb, if_pos (by rw [h2]; simp [ha, hb])]
      rw [Nat.xor_zero, Nat.xor_assoc]
    · rw [if_neg ha, if_neg hb, if_neg (by rw [h2]; simp [ha, hb])]
      simp
theorem tab_xor (a b : Nat) : tab (a ^^^ b) = tab a ^^^ tab b := by
  unfold tab
  simp only [st_xor]
theorem st_even (n : Nat) : st (n * 2) = n := by
  unfold st
  rw [if_neg (by omega), Nat.xor_zero, Nat.shiftRight_eq_div_pow]
  omega
theorem tab_high (y : Nat) : tab (y * 256) = y := by
  unfold tab
  rw [show y * 256 = (y * 128) * 2 by omega, st_even, show y * 128 = (y * 64) * 2 by omega, st_even, show y * 64 = (y * 32) * 2 by omega, st_even, show y * 32 = (y * 16) * 2 by omega, st_even,
    show y * 16 = (y * 8) * 2 by omega, st_even, show y * 8 = (y * 4) * 2 by omega, st_even, show y * 4 = (y * 2) * 2 by omega, st_even, st_even]
theorem parts (c : Nat) : c = (c % 256) ^^^ ((c >>> 8) * 256) := by
  apply Nat.eq_of_testBit_eq
  intro i
  rw [Nat.testBit_xor, show (256 : Nat) = 2 ^ 8 from rfl, ← Nat.shiftLeft_eq, Nat.testBit_mod_two_pow, Nat.testBit_shiftLeft, Nat.testBit_shiftRight]
  by_cases h : i < 8
  · simp [h, Nat.not_le.2 h]
  · have h8 : 8 ≤ i := by omega
    simp [h, h8, show 8 + (i - 8) = i by omega]
/-- eight steps behind a byte -/
theorem upd_eq (c : Nat) (b : UInt8) : tab (c ^^^ b.toNat) = upd c b := by
  have h : c ^^^ b.toNat = ((c % 256) ^^^ b.toNat) ^^^ ((c >>> 8) * 256) := by
    conv => lhs; rw [parts c]
    rw [Nat.xor_assoc, Nat.xor_comm ((c >>> 8) * 256), ← Nat.xor_assoc]
  rw [h, tab_xor, tab_high]
  rfl
theorem take4_be4 : ∀ (l : Bs), 4 ≤ l.length → l.take 4 = be4 (num4 l)
  | a :: b :: c :: d :: t, _ => by
    rw [be4_num4]
    simp only [List.take_succ_cons, List.take_zero]
/-- a record ahead is what a record of its text is -/
theorem head_iff (l : Bs) (h8 : 8 ≤ l.length) (h1 : num4 l ≤ l.length - 8) (h2 : num4 l ≤ 60000) :
    head? l = if rec_ ((l.drop 8).take (num4 l)) = l.take (8 + num4 l) then some ((l.drop 8).take (num4 l)) else none := by
  have h4 := take4_be4 l (by omega)
  obtain ⟨n, hn⟩ : ∃ n, n = num4 l := ⟨_, rfl⟩
  rw [← hn] at h1 h2 h4 ⊢
  have hl : ((l.drop 8).take n).length = n := by
    rw [List.length_take, List.length_drop]; omega
  have hs : l.take (8 + n) = be4 n ++ ((l.drop 4).take 4 ++ (l.drop 8).take n) := by
    rw [List.take_add, ← h4, ← List.append_assoc]
    congr 1
    exact List.take_add (l := l) (i := 4) (j := 4)
  obtain ⟨s, hse⟩ : ∃ s, s = (l.drop 8).take n := ⟨_, rfl⟩
  obtain ⟨m, hm⟩ : ∃ m, m = (l.drop 4).take 4 := ⟨_, rfl⟩
  have hh : head? l = if be4 (crc (be4 n ++ s)) = m then some s else none := by
    unfold head?
    rw [if_neg (by omega), ← hn, if_neg (by omega), h4, ← hse, ← hm]
  rw [hh, hs, ← hse, ← hm]
  rw [← hse] at hl
  unfold rec_
  rw [hl]
  by_cases hc : be4 (crc (be4 n ++ s)) = m
  · rw [if_pos hc, if_pos (by rw [hc])]
  · rw [if_neg hc, if_neg]
    intro he
    exact hc (List.append_cancel_right (List.append_cancel_left he))
/-- a number of the first bytes -/
def numJ (l : Bs) (i : Nat) : Nat := (l.take i).foldl (fun a b => a * 256 + b.toNat) 0
theorem numJ_succ (l : Bs) (i : Nat) (h : i < l.length) : numJ l (i + 1) = numJ l i * 256 + l[i].toNat := by
  unfold numJ
  rw [List.take_succ_eq_append_getElem h, List.foldl_append]
  rfl
theorem numJ_4 : ∀ (l : Bs), 4 ≤ l.length → numJ l 4 = num4 l
  | a :: b :: c :: d :: t, _ => by
    simp only [numJ, num4, List.take_succ_cons, List.take_zero, List.foldl_cons, List.foldl_nil, List.getD_cons_zero, List.getD_cons_succ]
    omega
theorem numJ_lt (l : Bs) (i : Nat) (h : i ≤ 4) : numJ l i ≤ 4294967295 := by
  have key : ∀ (m : Bs) (a : Nat), m.foldl (fun a b => a * 256 + b.toNat) a ≤ a * 256 ^ m.length + (256 ^ m.length - 1) := by
    intro m
    induction m with
    | nil => intro a; simp
    | cons x m ih =>
      intro a
      have := ih (a * 256 + x.toNat)
      have hx := x.toNat_lt
      simp only [List.foldl_cons, List.length_cons, Nat.pow_succ]
      refine Nat.le_trans this ?_
      have hp : 0 < 256 ^ m.length := Nat.pow_pos (by decide)
      have e1 : (a * 256 + x.toNat) * 256 ^ m.length ≤ (a * 256 + 255) * 256 ^ m.length := Nat.mul_le_mul_right _ (by omega)
      have e2 : (a * 256 + 255) * 256 ^ m.length = a * (256 ^ m.length * 256) + 255 * 256 ^ m.length := by
        rw [Nat.add_mul, Nat.mul_assoc, Nat.mul_comm 256]
      omega
  have h1 := key (l.take i) 0
  have h2 : (l.take i).length ≤ 4 := by rw [List.length_take]; omega
  have h3 : 256 ^ (l.take i).length ≤ 256 ^ 4 := Nat.pow_le_pow_right (by decide) h2
  unfold numJ
  have h4 : (256 : Nat) ^ 4 = 4294967296 := by decide
  omega
end Go.Proofs.YtmglkhnojimnlaaGreat.WM

/- The document's sums and records: fingerpostref02.Of, fingerpostref10.Record. -/
namespace Go.Proofs.YtmglkhnojimnlaaGreat
open Go.RowKit Go.Maps

theorem rstep02 (c : Nat) (hc : c < 4294967296) (w : World) : Calls Tryz.prog 118 #[.int .u32 (c : Int)] w fun e w' => e = .returned (.int .u32 (WM.st c : Int)) ∧ w' = w := by
  have hd : (c : Int) / 2 = ((c >>> 1 : Nat) : Int) := by rw [Nat.shiftRight_eq_div_pow]; omega
  have hl : c >>> 1 < 4294967296 := by rw [Nat.shiftRight_eq_div_pow]; omega
  have hcI : (c : Int) < 4294967296 := by omega
  by_cases hm : c % 2 = 1
  · have hs : WM.st c = (c >>> 1) ^^^ 3988292384 := by unfold WM.st; rw [if_pos hm]
    have h5 : bits .xor .u32 ((c >>> 1 : Nat) : Int) 3988292384 = ((((c >>> 1) ^^^ 3988292384 : Nat)) : Int) := bx_u32 (c >>> 1) 3988292384 hl (by decide)
    have hm1 : (c : Int) % 2 = 1 := by omega
    rw [hs, ← h5, ← hd]
    clear hs hm hl h5 hd
    go_enter Tryz.func118, Tryz.ntmps118
    go_wp2
    go_ret
    exact ⟨rfl, rfl⟩
  · have hs : WM.st c = c >>> 1 := by unfold WM.st; rw [if_neg hm, Nat.xor_zero]
    have hm1 : (c : Int) % 2 = 0 := by omega
    rw [hs, ← hd]
    clear hs hm hl hd
    go_enter Tryz.func118, Tryz.ntmps118
    go_wp2
    go_ret
    exact ⟨rfl, rfl⟩
set_option maxRecDepth 10000 in
set_option maxHeartbeats 800000 in
theorem rbehind02 (w : World) (c0 : Nat) (hc0 : c0 < 4294967296) (s : ByteArray) (hs : s.size ≤ maxLen) :
    Calls Tryz.prog 103 #[.int .u32 (c0 : Int), .string s] w fun e w' => e = .returned (.int .u32 (WM.run c0 (bs s) : Int)) ∧ w' = w := by
  unfold maxLen at hs
  have hsI : (s.size : Int) ≤ 9223372036854775807 := by omega
  have HC := Lib.hid hc0
  clear hc0 hs
  go_enter Tryz.func103, Tryz.ntmps103
  go_wp2_with fail
  go_loop [0, 5] (fun u v => ∃ i : Nat, i ≤ s.size ∧ u = .int .u32 (WM.run c0 ((bs s).take i) : Int) ∧ v = .int .i64 i) (fun _ v => s.size - (intOf v).toNat)
  case atStart => exact ⟨0, Nat.zero_le _, by simp [WM.run], rfl⟩
  case round =>
    obtain ⟨i, hi, rfl, rfl⟩ := hrel
    by_cases hil : i < s.size
    · have hil2 : i < (bs s).length := by rw [bs_length]; exact hil
      have hstep : WM.run c0 ((bs s).take (i + 1)) = WM.upd (WM.run c0 ((bs s).take i)) (bs s)[i] := by
        rw [List.take_succ_eq_append_getElem hil2, WM.run_append]
        rfl
      have hcl := WM.run_lt ((bs s).take i) c0 HC.out
      obtain ⟨c, hc⟩ : ∃ c, c = WM.run c0 ((bs s).take i) := ⟨_, rfl⟩
      rw [← hc] at hstep hcl ⊢
      obtain ⟨sb, hsb⟩ : ∃ sb : UInt8, s[i]'hil = sb := ⟨_, rfl⟩
      have hsb2 : (bs s)[i] = sb := by
        have h9 : (bs s)[i]? = some (s[i]'hil) := by
          show s.data.toList[i]? = _
          rw [Array.getElem?_toList, Array.getElem?_eq_getElem hil]
          rfl
        rw [List.getElem?_eq_getElem hil2, hsb] at h9
        exact Option.some.inj h9
      rw [hsb2, ← WM.upd_eq] at hstep
      have hbl := sb.toNat_lt
      have hx := bx_u32 c sb.toNat hcl (by omega)
      have hxl : c ^^^ sb.toNat < 4294967296 := WM.xor_lt hcl (by omega)
      obtain ⟨x, hxx⟩ : ∃ x, x = c ^^^ sb.toNat := ⟨_, rfl⟩
      rw [← hxx] at hx hxl hstep
      have HST := Lib.hid hstep
      have HXL := Lib.hid hxl
      clear hstep hc hsb2 hxx hil2 hxl hcl
      go_wp2_with fail
      go_loop [0, 6] (fun u v => ∃ k : Nat, k ≤ 8 ∧ u = .int .u32 (stN k x : Int) ∧ v = .int .i64 k) (fun _ v => 8 - (intOf v).toNat)
      case atStart => exact ⟨0, by omega, rfl, rfl⟩
      case round =>
        obtain ⟨k, hk, rfl, rfl⟩ := hrel
        by_cases hlt : k < 8
        · go_wp2_with fail
          refine (rstep02 (stN k x) (stN_lt k x HXL.out) _).mono ?_
          rintro e w' ⟨rfl, rfl⟩
          go_wp2_with fail
          go_round
          case rel => exact ⟨k + 1, by omega, rfl, by go_num⟩
          case measure => simp [intOf]; omega
        · obtain rfl : k = 8 := by omega
          rw [stN_8, ← HST.out]
          go_wp2_with fail
          go_round
          case rel => exact ⟨i + 1, by omega, rfl, by go_num⟩
          case measure => simp [intOf]; omega
    · have hall : (bs s).take i = bs s := List.take_of_length_le (by rw [bs_length]; omega)
      rw [hall]
      go_wp2_with fail
      go_ret
      exact ⟨rfl, rfl⟩
theorem rof02 (w : World) (s : ByteArray) (hs : s.size ≤ maxLen) : Calls Tryz.prog 94 #[.string s] w fun e w' => e = .returned (.int .u32 (WM.crc (bs s) : Int)) ∧ w' = w := by
  have hb := rbehind02 w 4294967295 (by decide) s hs
  have hlt := WM.run_lt (bs s) 4294967295 (by decide)
  obtain ⟨c, hc⟩ : ∃ c, c = WM.run 4294967295 (bs s) := ⟨_, rfl⟩
  have hcrc : WM.crc (bs s) = 4294967295 ^^^ c := by rw [hc]; rfl
  rw [← hc] at hb hlt
  have HB := Lib.hid hb
  have hx : bits .xor .u32 4294967295 (c : Int) = ((4294967295 ^^^ c : Nat) : Int) := bx_u32 4294967295 c (by decide) hlt
  rw [hcrc]
  have HL := Lib.hid hlt
  clear hb hc hcrc hlt hs
  go_enter Tryz.func94, Tryz.ntmps94
  go_wp2_with fail
  refine HB.out.mono ?_
  rintro e w1 ⟨rfl, rfl⟩
  go_wp2_with fail
  go_ret
  exact ⟨congrArg (fun z => Ending.returned (Value.int .u32 z)) (show bits .xor .u32 IntKind.u32.max (c : Int) = _ from hx), rfl⟩
set_option maxRecDepth 10000 in
theorem rfour_any (w : World) (n : Nat) (hn : n < 4294967296) : Calls Tryz.prog 93 #[.int .u32 (n : Int)] w fun e w' => e = .returned (.string (ofBs (WM.be4 n))) ∧ Touch [] w w' := by
  have e0 : (n : Int) / 16777216 = ((UInt8.ofNat (n / 16777216)).toNat : Int) := by rw [byte_of]; omega
  have e1 : ((n : Int) / 65536) % 256 = ((UInt8.ofNat (n / 65536)).toNat : Int) := by rw [byte_of]; omega
  have e2 : ((n : Int) / 256) % 256 = ((UInt8.ofNat (n / 256)).toNat : Int) := by rw [byte_of]; omega
  have e3 : (n : Int) % 256 = ((UInt8.ofNat n).toNat : Int) := by rw [byte_of]
  have hcv : (convert 85 9 (.slice (some ⟨w.heap.size, 0, none⟩) 4 4)).run Tryz.prog (w.alloc (.cells #[.int .u8 ((UInt8.ofNat (n / 16777216)).toNat : Int), .int .u8 ((UInt8.ofNat (n / 65536)).toNat : Int), .int .u8 ((UInt8.ofNat (n / 256)).toNat : Int), .int .u8 ((UInt8.ofNat n).toNat : Int)] 5)) =
      .ok (.string (ofBs (WM.be4 n))) (w.alloc (.cells #[.int .u8 ((UInt8.ofNat (n / 16777216)).toNat : Int), .int .u8 ((UInt8.ofNat (n / 65536)).toNat : Int), .int .u8 ((UInt8.ofNat (n / 256)).toNat : Int), .int .u8 ((UInt8.ofNat n).toNat : Int)] 5)) :=
    run_convert_bytes_back (P := Tryz.prog) _ 85 9 5 ⟨w.heap.size, 0, none⟩ 4 (WM.be4 n) Tryz.underlying85 Tryz.underlying5 Tryz.underlying9 (fun j hj => by
      have hb := Blk.new w 5 #[.int .u8 ((UInt8.ofNat (n / 16777216)).toNat : Int), .int .u8 ((UInt8.ofNat (n / 65536)).toNat : Int), .int .u8 ((UInt8.ofNat (n / 256)).toNat : Int), .int .u8 ((UInt8.ofNat n).toNat : Int)]
      rw [add_none, Nat.zero_add, hb.cell j]
      have hj4 : j < 4 := hj
      match j, hj4 with
      | 0, _ => rfl
      | 1, _ => rfl
      | 2, _ => rfl
      | 3, _ => rfl)
  have hnI : (n : Int) < 4294967296 := by omega
  generalize UInt8.ofNat (n / 16777216) = b0 at e0 hcv
  generalize UInt8.ofNat (n / 65536) = b1 at e1 hcv
  generalize UInt8.ofNat (n / 256) = b2 at e2 hcv
  generalize UInt8.ofNat n = b3 at e3 hcv
  generalize ofBs (WM.be4 n) = st at hcv ⊢
  go_enter Tryz.func93, Tryz.ntmps93
  go_wp2
  go_ret
  exact ⟨rfl, (Touch.refl [] w).alloc _⟩

set_option maxRecDepth 10000 in
theorem rrecord_any (w : World) (s : ByteArray) (hs : s.size ≤ 1099511627776) : Calls Tryz.prog 71 #[.string s] w fun e w' =>
    e = .returned (.tuple #[.string (if s.size ≤ 60000 then recS s else ⟨#[]⟩), .int .i64 (if s.size ≤ 60000 then 0 else 11)]) ∧ Touch [] w w' := by
  by_cases hb : s.size ≤ 60000
  · rw [if_pos hb, if_pos hb]
    have hbI : ¬ (60000 : Int) < (s.size : Int) := by omega
    have hbI2 : (s.size : Int) ≤ 60000 := by omega
    have hl1 := fun w => rfour_any w s.size (by omega)
    have hl2 := fun w => rfour_any w (WM.crc (WM.be4 s.size ++ bs s)) (WM.crc_lt _)
    have hof := fun w => rof02 w (ofBs (WM.be4 s.size) ++ s) (by rw [ByteArray.size_append, ofBs_size, WM.be4_length]; unfold maxLen; omega)
    rw [bs_append, bs_ofBs] at hof
    have hz1 : (ofBs (WM.be4 s.size)).size = 4 := by rw [ofBs_size]; rfl
    have hz2 : (ofBs (WM.be4 (WM.crc (WM.be4 s.size ++ bs s)))).size = 4 := by rw [ofBs_size]; rfl
    have hre : recS s = ofBs (WM.be4 s.size) ++ ofBs (WM.be4 (WM.crc (WM.be4 s.size ++ bs s))) ++ s := rfl
    have HRE := Lib.hid hre
    obtain ⟨x, hx⟩ : ∃ x, x = ofBs (WM.be4 s.size) := ⟨_, rfl⟩
    obtain ⟨y, hy⟩ : ∃ y, y = ofBs (WM.be4 (WM.crc (WM.be4 s.size ++ bs s))) := ⟨_, rfl⟩
    rw [← hx] at hl1 hof hz1 HRE
    rw [← hy] at hl2 hz2 HRE
    obtain ⟨c, hc⟩ : ∃ c, c = WM.crc (WM.be4 s.size ++ bs s) := ⟨_, rfl⟩
    rw [← hc] at hl2 hof
    have hz3 : (x ++ y).size = 8 := by rw [ByteArray.size_append, hz1, hz2]
    have hz4 : (x ++ s).size = 4 + s.size := by rw [ByteArray.size_append, hz1]
    have L1 := Lib.hid hl1
    have L2 := Lib.hid hl2
    have HOF := Lib.hid hof
    clear hl1 hl2 hof hx hy hc hre
    go_enter Tryz.func71, Tryz.ntmps71
    go_wp2_with fail
    refine (L1.out _).mono ?_
    rintro e w1 ⟨rfl, T1⟩
    go_wp2_with fail
    refine (HOF.out _).mono ?_
    rintro e w1 ⟨rfl, rfl⟩
    go_wp2_with fail
    refine (L2.out _).mono ?_
    rintro e w3 ⟨rfl, T3⟩
    go_wp2_with fail
    go_ret2
    exact ⟨by rw [HRE.out]; rfl, T1.trans T3 (by simp)⟩
  · rw [if_neg hb, if_neg hb]
    have hbI : (60000 : Int) < (s.size : Int) := by omega
    go_enter Tryz.func71, Tryz.ntmps71
    go_wp2
    go_ret2
    exact ⟨rfl, Touch.refl _ _⟩
end Go.Proofs.YtmglkhnojimnlaaGreat

/- law10: short, few, same, prefix. -/
namespace Go.Proofs.YtmglkhnojimnlaaGreat
open Go.RowKit Go.Maps

def cutS (s : ByteArray) (k : Nat) : ByteArray := if k < s.size then s.extract 0 k else s
theorem cutS_size (s : ByteArray) (k : Nat) : (cutS s k).size ≤ k ∧ (cutS s k).size ≤ s.size := by
  unfold cutS
  split
  · rw [ByteArray.size_extract]; omega
  · omega
theorem short_any (w : World) (s : ByteArray) (k : Nat) (hs : s.size ≤ maxLen) (hk : k ≤ 1099511627776) :
    Calls Tryz.prog 65 #[.string s, .int .i64 (k : Int)] w fun e w' => e = .returned (.string (cutS s k)) ∧ w' = w := by
  unfold maxLen at hs
  by_cases h : k < s.size
  · have e : cutS s k = s.extract 0 k := by unfold cutS; rw [if_pos h]
    rw [e]
    clear e
    have h' : (k : Int) < (s.size : Int) := by omega
    go_enter Tryz.func65, Tryz.ntmps65
    go_wp2
    go_ret
    exact ⟨rfl, rfl⟩
  · have e : cutS s k = s := by unfold cutS; rw [if_neg h]
    rw [e]
    clear e
    have h' : ¬ (k : Int) < (s.size : Int) := by omega
    go_enter Tryz.func65, Tryz.ntmps65
    go_wp2
    go_ret
    exact ⟨rfl, rfl⟩
/-- at most 8 texts, of 200 bytes at most -/
def fewL (ss : List ByteArray) : List ByteArray := (ss.take 8).map (fun s => cutS s 200)
theorem fewL_len (ss : List ByteArray) : (fewL ss).length ≤ 8 := by simp [fewL]; omega
theorem fewL_each (ss : List ByteArray) : ∀ s ∈ fewL ss, s.size ≤ 200 := fun s hs => by
  simp only [fewL, List.mem_map] at hs
  obtain ⟨t, _, rfl⟩ := hs
  exact (cutS_size t 200).1
theorem lens_few : ∀ (l : List WM.Bs) (k : Nat), (∀ s ∈ l, s.length ≤ k) → (WM.all l).length ≤ l.length * (8 + k)
  | [], k, _ => by simp [WM.all]
  | s :: l, k, h => by
    have h1 := lens_few l k (fun x hx => h x (by simp [hx]))
    have h2 := h s (by simp)
    rw [WM.all_cons, List.length_append, WM.rec_length, List.length_cons, Nat.succ_mul]
    omega
theorem fewL_fits (ss : List ByteArray) : WM.Fits ((fewL ss).map bs) ∧ (WM.all ((fewL ss).map bs)).length ≤ 1664 := by
  have h : ∀ s ∈ (fewL ss).map bs, s.length ≤ 200 := fun s hs => by
    simp only [List.mem_map] at hs
    obtain ⟨t, ht, rfl⟩ := hs
    rw [bs_length]
    exact fewL_each ss t ht
  refine ⟨fun s hs => by have := h s hs; omega, ?_⟩
  have h1 := lens_few _ 200 h
  have h2 := fewL_len ss
  rw [List.length_map] at h1
  have h3 : (fewL ss).length * 208 ≤ 8 * 208 := Nat.mul_le_mul_right _ h2
  omega
set_option maxRecDepth 10000 in
set_option maxHeartbeats 800000 in
theorem few_any (w : World) (a : Option Addr) (cap : Nat) (ss : List ByteArray) (ht : Texts w a ss) (hl : ss.length ≤ maxLen) (hs : ∀ s ∈ ss, s.size ≤ maxLen) :
    Calls Tryz.prog 30 #[.slice a ss.length cap] w fun e w' => ∃ v, e = .returned v ∧ StrRow w' w.heap.size v (fewL ss) ∧ Touch [] w w' := by
  unfold maxLen at hl
  have hlb : (ss.length : Int) ≤ 9223372036854775807 := by omega
  have HT := Lib.hid ht
  have HS := Lib.hid hs
  obtain ⟨i0, hi, hz0, hz1, hz2⟩ := info_parts infoStr
  have HI := Lib.hid (And.intro hi (And.intro hz0 (And.intro hz1 hz2)))
  clear ht hs hi hz0 hz1 hz2 hl
  go_enter Tryz.func30, Tryz.ntmps30
  go_wp2_with fail
  go_loopw [3, 4] (fun s3 u wr => ∃ (i : Nat) (v : Value), v = s3 ∧ i ≤ ss.length ∧ i ≤ 8 ∧ u = .int .i64 i ∧ StrRow wr w.heap.size v ((ss.take i).map (fun s => cutS s 200)) ∧ Touch [] w wr) (fun _ u _ => 8 - (intOf u).toNat)
  case atStart => exact ⟨0, _, rfl, Nat.zero_le _, by omega, rfl, StrRow.nil _ _, Touch.refl _ _⟩
  case round =>
    obtain ⟨i, v, rfl, hi, hi8, rfl, hR, hT⟩ := hrel
    have HR := Lib.hid hR
    have HTT := Lib.hid hT
    by_cases hlt : i < ss.length ∧ i < 8
    · obtain ⟨hlt, h8⟩ := hlt
      have h8I : (i : Int) < 8 := by omega
      obtain ⟨blk, off, rfl, hc⟩ := HT.out i hlt
      have hcr := hT.cell hc (by simp)
      have hsh := fun W => short_any W ss[i] 200 (HS.out _ (List.getElem_mem _)) (by omega)
      have hlast : (ss.take i).map (fun s => cutS s 200) ++ [cutS ss[i] 200] = (ss.take (i + 1)).map (fun s => cutS s 200) := by
        rw [List.take_succ_eq_append_getElem hlt, List.map_append]; rfl
      have hln : ((ss.take i).map (fun s => cutS s 200)).length = i := by simp; omega
      obtain ⟨xs, hxs⟩ : ∃ xs, xs = (ss.take i).map (fun s => cutS s 200) := ⟨_, rfl⟩
      obtain ⟨s, hse⟩ : ∃ s, s = ss[i] := ⟨_, rfl⟩
      rw [← hse] at hsh hlast hcr
      rw [← hxs] at hlast hln HR
      obtain ⟨t, hte⟩ : ∃ t, t = cutS s 200 := ⟨_, rfl⟩
      rw [← hte] at hsh hlast
      have hrow : wr.ownsRow w.heap.size 9 1 v i (xs.map .string) := by have := HR.out; unfold StrRow at this; rwa [hln] at this
      have HROW := Lib.hid hrow
      have HSH := Lib.hid hsh
      have HLAST := Lib.hid hlast
      have HLN := Lib.hid hln
      clear hR hT hc hsh hlast hxs hse hte hrow hln
      go_wp2_with (first | (go_at_call 65; refine (HSH.out _).mono ?_; rintro e w1 ⟨rfl, rfl⟩) | (at_builtin; refine wpList_append_own _ rfl (.tmp 15) (.tmp 21) 34 rfl w.heap.size 9 i0 _ 1 16 Tryz.underlying34 HI.out.1 HI.out.2.1 HI.out.2.2.1 HI.out.2.2.2 rfl (by decide) v i _ rfl (HROW.out.alloc _) ⟨w1.heap.size, 0, none⟩ 1 1 [.string t] rfl rfl (cell_one_new _ _ _) (by simp [Value.oneCell']) (by unfold maxLen; omega) (by omega) (by have := HTT.out.size; simp; omega) ?_; intro v' w2 hown' hgrow _; obtain ⟨g', cap', rfl⟩ := ownsRow_succ hown'))
      have T2 : Touch [] w w2 := (HTT.out.alloc _).trans (Touch.of_grown hgrow) (fun k hk => .inr (HROW.out.lt k (by simpa using hk)).1)
      have hR2 : StrRow w2 w.heap.size (.slice (some ⟨g', 0, none⟩) (i + 1) cap') ((ss.take (i + 1)).map (fun s => cutS s 200)) := by
        rw [← HLAST.out]
        unfold StrRow
        rw [List.map_append, List.length_append, HLN.out]
        exact hown'
      have HR2 := Lib.hid hR2
      have HT2 := Lib.hid T2
      clear hR2 T2 hown' hgrow
      go_roundw
      case rel => exact ⟨i + 1, _, rfl, by omega, by omega, by go_num, HR2.out, HT2.out⟩
      case measure => simp [intOf]; omega
    · have hie : fewL ss = (ss.take i).map (fun s => cutS s 200) := by
        unfold fewL
        rcases Nat.lt_or_ge i 8 with h | h
        · rw [List.take_of_length_le (show ss.length ≤ 8 by omega), List.take_of_length_le (show ss.length ≤ i by omega)]
        · obtain rfl : i = 8 := by omega
          rfl
      rw [← hie] at HR
      have hne : ¬ ((i : Int) < (ss.length : Int) ∧ (i : Int) < 8) := by omega
      clear hie hR hT
      by_cases h2 : i < ss.length
      all_goals
        go_wp2_with fail
        go_ret
        exact ⟨_, rfl, HR.out, HTT.out⟩
end Go.Proofs.YtmglkhnojimnlaaGreat

/- law10: same, prefix. -/
namespace Go.Proofs.YtmglkhnojimnlaaGreat
open Go.RowKit Go.Maps

/-- are two lists of texts the same? -/
def sameB (xs ys : List ByteArray) : Bool := decide (xs = ys)
theorem sameB_iff {xs ys : List ByteArray} : sameB xs ys = true ↔ xs = ys := by simp [sameB]
theorem toList_eq_self (a : ByteArray) : (a.toList == a.toList) = true := by simp
theorem sameB_refl (xs : List ByteArray) : sameB xs xs = true := by simp [sameB]
set_option maxRecDepth 10000 in
set_option maxHeartbeats 800000 in
theorem same_any (w : World) (a b : Option Addr) (c1 c2 : Nat) (xs ys : List ByteArray) (hx : Texts w a xs) (hy : Texts w b ys) (hlx : xs.length ≤ 1099511627776) (hly : ys.length ≤ 1099511627776) :
    Calls Tryz.prog 25 #[.slice a xs.length c1, .slice b ys.length c2] w fun e w' => e = .returned (.bool (sameB xs ys)) ∧ ∃ j, w' = w.drewN j := by
  have hlxI : (xs.length : Int) ≤ 1099511627776 := by omega
  have hlyI : (ys.length : Int) ≤ 1099511627776 := by omega
  by_cases hl : xs.length = ys.length
  · have HX := Lib.hid hx
    have HY := Lib.hid hy
    obtain ⟨n, hn⟩ : ∃ n, n = ys.length := ⟨_, rfl⟩
    rw [hl, ← hn]
    rw [← hn] at hlyI
    have HL := Lib.hid (hl.trans hn.symm)
    have HN := Lib.hid hn
    have hself : ((n : Int) == (n : Int)) = true := by simp
    clear hx hy hl hlx hly hlxI hn
    go_enter Tryz.func25, Tryz.ntmps25
    go_wp2_with fail
    go_loopw [5] (fun u wr => ∃ (i j : Nat), u = .int .i64 i ∧ i ≤ n ∧ (∀ k (h1 : k < xs.length) (h2 : k < ys.length), k < i → xs[k] = ys[k]) ∧ wr = w.drewN j) (fun u _ => n - (intOf u).toNat)
    case atStart => exact ⟨0, 0, rfl, Nat.zero_le _, fun k _ _ h => absurd h (Nat.not_lt_zero _), rfl⟩
    case round =>
      obtain ⟨i, j, rfl, hi, hk, hwr⟩ := hrel
      have HK := Lib.hid hk
      have HWR := Lib.hid hwr
      clear hk
      by_cases hlt : i < n
      · have h1 : i < xs.length := by rw [HL.out]; exact hlt
        have h2 : i < ys.length := by rw [← HN.out]; exact hlt
        obtain ⟨bx, ox, rfl, hcx⟩ := HX.out i h1
        obtain ⟨by_, oy, rfl, hcy⟩ := HY.out i h2
        have hcx' : wr.cell? ⟨bx, ox + i, none⟩ = some (.string xs[i]) := by rw [hwr]; exact hcx
        have hcy' : wr.cell? ⟨by_, oy + i, none⟩ = some (.string ys[i]) := by rw [hwr]; exact hcy
        have hnI : (i : Int) < (n : Int) := by omega
        have hi0 : (0 : Int) ≤ (i : Int) := by omega
        by_cases he : xs[i] = ys[i]
        · have hs : (xs[i].toList == ys[i].toList) = true := by rw [he]; simp
          have hs2 : (xs[i].toList != ys[i].toList) = false := by rw [he]; simp
          have hnext : ∀ k (h1 : k < xs.length) (h2 : k < ys.length), k < i + 1 → xs[k] = ys[k] := fun k q1 q2 hk => by
            rcases Nat.lt_or_ge k i with h | h
            · exact HK.out k q1 q2 h
            · obtain rfl : k = i := by omega
              exact he
          have HNX := Lib.hid hnext
          obtain ⟨x, hxe⟩ : ∃ x, x = xs[i] := ⟨_, rfl⟩
          obtain ⟨y, hye⟩ : ∃ y, y = ys[i] := ⟨_, rfl⟩
          rw [← hxe] at hcx' hs hs2
          rw [← hye] at hcy' hs hs2
          clear hnext he hcx hcy hxe hye h1 h2 hwr
          go_wp2_with fail
          go_quiet (fail)
          go_wp2_with fail
          go_roundw
          case rel => exact ⟨i + 1, j + nq, by go_num, by omega, HNX.out, by rw [HWR.out, World.drewN_drewN]⟩
          case measure => simp [intOf]; omega
        · have hs : (xs[i].toList == ys[i].toList) = false := toList_ne he
          have hs2 : (xs[i].toList != ys[i].toList) = true := by rw [bne, hs]; rfl
          have hf : sameB xs ys = false := by
            cases hb : sameB xs ys with
            | false => rfl
            | true => have := sameB_iff.1 hb; subst this; exact absurd rfl he
          have HF := Lib.hid hf
          obtain ⟨x, hxe⟩ : ∃ x, x = xs[i] := ⟨_, rfl⟩
          obtain ⟨y, hye⟩ : ∃ y, y = ys[i] := ⟨_, rfl⟩
          rw [← hxe] at hcx' hs hs2
          rw [← hye] at hcy' hs hs2
          clear he hcx hcy hxe hye h1 h2 hf hwr
          go_wp2_with fail
          go_quiet (fail)
          go_wp2_with fail
          go_ret
          exact ⟨ret_bool HF.out.symm, j + nq, by rw [HWR.out, World.drewN_drewN]⟩
      · have hf : sameB xs ys = true := by
          rw [sameB_iff]
          refine List.ext_getElem (HL.out.trans HN.out) (fun k h1 h2 => HK.out k h1 h2 ?_)
          have := HL.out; omega
        have HF := Lib.hid hf
        clear hf hwr
        go_wp2_with fail
        go_ret
        exact ⟨ret_bool HF.out.symm, j, HWR.out⟩
  · have hf : sameB xs ys = false := by
      cases hb : sameB xs ys with
      | false => rfl
      | true => have := sameB_iff.1 hb; subst this; exact absurd rfl hl
    rw [hf]
    have hne : ((xs.length : Int) == (ys.length : Int)) = false := by rw [beq_eq_false_iff_ne]; omega
    have hne2 : (xs.length == ys.length) = false := by rw [beq_eq_false_iff_ne]; omega
    clear hf hx hy hl
    go_enter Tryz.func25, Tryz.ntmps25
    go_wp2_with fail
    go_ret
    exact ⟨rfl, 0, rfl⟩
/-- is a list a beginning of another one, with so many of it at least? -/
def prefixB (xs ys : List ByteArray) (n : Int) : Bool := decide (xs.length ≤ ys.length ∧ n ≤ (xs.length : Int) ∧ xs = ys.take xs.length)
end Go.Proofs.YtmglkhnojimnlaaGreat

/- The document's records, read: fingerpostref10.Records. -/
namespace Go.Proofs.YtmglkhnojimnlaaGreat
open Go.RowKit Go.Maps
attribute [local go_sem] Oper.semAt_some

theorem drop_get (s : ByteArray) (at' i : Nat) (h : at' + i < s.size) : ((bs s).drop at')[i]'(by rw [List.length_drop, bs_length]; omega) = s[at' + i] := by
  rw [List.getElem_drop]
  have h9 : (bs s)[at' + i]? = some (s[at' + i]'h) := by
    show s.data.toList[at' + i]? = _
    rw [Array.getElem?_toList, Array.getElem?_eq_getElem h]
    rfl
  rw [List.getElem?_eq_getElem (by rw [bs_length]; exact h)] at h9
  exact Option.some.inj h9
set_option maxRecDepth 100000 in
set_option maxHeartbeats 3200000 in
theorem rrecords_any (w : World) (b : ByteArray) (hbz : b.size ≤ 1099511627776) : Calls Tryz.prog 62 #[.string b] w fun e w' =>
    ∃ v, e = .returned (.tuple #[v, .int .i64 ((WM.recs (bs b)).2 : Int)]) ∧ StrRow w' w.heap.size v ((WM.recs (bs b)).1.map ofBs) ∧ Touch [] w w' := by
  have hbI : (b.size : Int) ≤ 1099511627776 := by omega
  obtain ⟨i0, hi, hz0, hz1, hz2⟩ := info_parts infoStr
  have HI := Lib.hid (And.intro hi (And.intro hz0 (And.intro hz1 hz2)))
  have HCN := Lib.hid (WM.recs_count (bs b).length (bs b) (Nat.le_refl _))
  rw [bs_length] at HCN
  clear hi hz0 hz1 hz2
  go_enter Tryz.func62, Tryz.ntmps62
  go_wp2_with fail
  go_loopw [4, 5] (fun s4 u wr => ∃ (p : Nat) (v : Value) (pre : List ByteArray), v = s4 ∧ u = .int .i64 (p : Int) ∧ p ≤ b.size ∧ StrRow wr w.heap.size v pre ∧ Touch [] w wr ∧
    WM.recs (bs b) = (pre.map bs ++ (WM.recs ((bs b).drop p)).1, p + (WM.recs ((bs b).drop p)).2)) (fun _ u _ => b.size - (intOf u).toNat)
  case atStart => exact ⟨0, _, [], rfl, rfl, Nat.zero_le _, StrRow.nil _ _, Touch.refl _ _, by simp⟩
  case round =>
    obtain ⟨p, v, pre, rfl, rfl, hp, hR, hT, hre⟩ := hrel
    have HR := Lib.hid hR
    have HTT := Lib.hid hT
    have hend : (WM.recs ((bs b).drop p)) = ([], 0) → StrRow wr w.heap.size v ((WM.recs (bs b)).1.map ofBs) ∧ ((WM.recs (bs b)).2 : Int) = (p : Int) := fun h => by
      rw [hre, h]
      refine ⟨?_, by simp⟩
      have : (pre.map bs ++ ([] : List WM.Bs)).map ofBs = pre := by
        rw [List.append_nil, List.map_map]
        conv => rhs; rw [← List.map_id pre]
        exact List.map_congr_left (fun x _ => ofBs_bs x)
      simp only [this]
      exact hR
    have HEND := Lib.hid hend
    have HRE := Lib.hid hre
    have hlen : ((bs b).drop p).length = b.size - p := by rw [List.length_drop, bs_length]
    have HLEN := Lib.hid hlen
    clear hR hT hend hre
    by_cases h8 : b.size - p < 8
    · have h8I : ¬ (8 : Int) ≤ (b.size : Int) - (p : Int) := by omega
      obtain ⟨hE1, hE2⟩ := HEND.out (WM.recs_short (by rw [hlen]; exact h8))
      have HE1 := Lib.hid hE1
      have HE2 := Lib.hid hE2
      clear hlen hE1 hE2
      go_wp2_with fail
      go_ret2
      exact ⟨v, by rw [HE2.out]; rfl, HE1.out, HTT.out⟩
    · have h8I : (8 : Int) ≤ (b.size : Int) - (p : Int) := by omega
      have hnum := WM.numJ_4 ((bs b).drop p) (by omega)
      have HNUM := Lib.hid hnum
      clear hlen hnum
      go_wp2_with fail
      go_loop [6, 7] (fun u z => ∃ j : Nat, j ≤ 4 ∧ u = .int .i64 (WM.numJ ((bs b).drop p) j : Int) ∧ z = .int .i64 j) (fun _ z => 4 - (intOf z).toNat)
      case atStart => exact ⟨0, by omega, rfl, rfl⟩
      case round =>
        obtain ⟨j, hj, rfl, rfl⟩ := hrel
        by_cases hlt : j < 4
        · have hji : p + j < b.size := by omega
          have hst := WM.numJ_succ ((bs b).drop p) j (by rw [HLEN.out]; omega)
          rw [drop_get b p j hji] at hst
          have hnl := WM.numJ_lt ((bs b).drop p) j hj
          obtain ⟨nj, hnj⟩ : ∃ nj, nj = WM.numJ ((bs b).drop p) j := ⟨_, rfl⟩
          rw [← hnj] at hst hnl ⊢
          have hnlI : (nj : Int) ≤ 4294967295 := by omega
          have hcl := b[p + j].toNat_lt
          have HST := Lib.hid hst
          have HNJ := Lib.hid hnj
          have hjI : (j : Int) < 4 := by omega
          have hpjI : (p : Int) + (j : Int) < (b.size : Int) := by omega
          have hwc := wrap_a b[p + j]
          clear hst hnj hnl
          go_wp2_with fail
          go_round
          case rel => exact ⟨j + 1, by omega, by refine congrArg (Value.int .i64) ?_; rw [HST.out]; omega, by go_num⟩
          case measure => simp [intOf]; omega
        · obtain rfl : j = 4 := by omega
          rw [HNUM.out]
          obtain ⟨n, hn⟩ : ∃ n, n = WM.num4 ((bs b).drop p) := ⟨_, rfl⟩
          have hnl : n < 4294967296 := by rw [hn]; exact WM.num4_lt _
          rw [← hn]
          have hnlI : (n : Int) < 4294967296 := by omega
          by_cases hbad : b.size - p - 8 < n ∨ 60000 < n
          · have hE := HEND.out (WM.recs_none (by unfold WM.head?; rw [HLEN.out, if_neg (by omega), ← hn, if_pos (by omega)]))
            obtain ⟨hE1, hE2⟩ := hE
            have HE1 := Lib.hid hE1
            have HE2 := Lib.hid hE2
            have hbadI : (b.size : Int) - (p : Int) - 8 < (n : Int) ∨ (60000 : Int) < (n : Int) := by omega
            clear hE1 hE2 hn hnl hbad
            rcases Int.lt_or_le ((b.size : Int) - (p : Int) - 8) (n : Int) with hq | hq
            · clear hbadI
              go_wp2_with fail
              go_ret2
              exact ⟨v, by rw [HE2.out]; rfl, HE1.out, HTT.out⟩
            · have hq2 : (60000 : Int) < (n : Int) := by omega
              have hq3 : ¬ ((b.size : Int) - (p : Int) - 8 < (n : Int)) := by omega
              clear hbadI hq
              go_wp2_with fail
              go_ret2
              exact ⟨v, by rw [HE2.out]; rfl, HE1.out, HTT.out⟩
          · have hq1 : ¬ ((b.size : Int) - (p : Int) - 8 < (n : Int)) := by omega
            have hq2 : ¬ ((60000 : Int) < (n : Int)) := by omega
            have hn2 : p + 8 + n ≤ b.size := by omega
            have hn2I : (p : Int) + 8 + (n : Int) ≤ (b.size : Int) := by omega
            have hhi := WM.head_iff ((bs b).drop p) (by rw [HLEN.out]; omega) (by rw [← hn, HLEN.out]; omega) (by rw [← hn]; omega)
            rw [← hn] at hhi
            obtain ⟨s, hs⟩ : ∃ s, s = b.extract (p + 8) (p + 8 + n) := ⟨_, rfl⟩
            obtain ⟨t, ht⟩ : ∃ t, t = b.extract p (p + 8 + n) := ⟨_, rfl⟩
            have hbss : bs s = (((bs b).drop p).drop 8).take n := by
              rw [hs, bs_extract, List.drop_drop, show p + 8 + n - (p + 8) = n by omega]
            have hbst : bs t = ((bs b).drop p).take (8 + n) := by
              rw [ht, bs_extract, show p + 8 + n - p = 8 + n by omega]
            have hsz : s.size = n := by rw [hs, ByteArray.size_extract]; omega
            rw [← hbss, ← hbst, ← bs_recS] at hhi
            have hrec := fun W => rrecord_any W s (by omega)
            rw [if_pos (show s.size ≤ 60000 by omega), if_pos (show s.size ≤ 60000 by omega)] at hrec
            have HREC := Lib.hid hrec
            have HN := Lib.hid hn
            clear hrec hbss hbst hn hbad
            obtain ⟨r, hr⟩ : ∃ r, r = recS s := ⟨_, rfl⟩
            rw [← hr] at HREC hhi
            by_cases hrt : r = t
            · rw [if_pos (by rw [hrt])] at hhi
              have hrs := WM.recs_some hhi
              rw [bs_length, hsz, List.drop_drop] at hrs
              have hre := HRE.out
              rw [hrs] at hre
              have hpl : pre.length < b.size := by
                have := HCN.out
                rw [hre] at this
                simp only [List.length_append, List.length_map, List.length_cons] at this
                omega
              have HRE2 := Lib.hid hre
              have heq : (r.toList == (b.extract p (p + 8 + n)).toList) = true := by rw [hrt, ht]; exact toList_eq_self _
              have heq2 : (r.toList != (b.extract p (p + 8 + n)).toList) = false := by rw [bne, heq]; rfl
              have HS := Lib.hid hs
              clear hhi hrs hre hr hrt ht hs
              have hln : pre.length ≤ 1099511627776 := by omega
              have hrow : wr.ownsRow w.heap.size 9 1 v pre.length (pre.map .string) := HR.out
              have HROW := Lib.hid hrow
              clear hrow
              go_wp2_with (first | (go_at_call 71; rw [← HS.out]; refine (HREC.out _).mono ?_; rintro e w1 ⟨rfl, T1⟩; have HT1 := Lib.hid T1; clear T1) | (at_builtin; refine wpList_append_own _ rfl (.tmp 62) (.tmp 64) 34 rfl w.heap.size 9 i0 _ 1 16 Tryz.underlying34 HI.out.1 HI.out.2.1 HI.out.2.2.1 HI.out.2.2.2 rfl (by decide) v pre.length _ rfl ((row_far HROW.out HT1.out (by simp)).alloc _) ⟨w1.heap.size, 0, none⟩ 1 1 [.string s] rfl rfl (cell_one_new _ _ _) (by simp [Value.oneCell']) (by unfold maxLen; omega) (by omega) (by have := HTT.out.size; have := HT1.out.size; simp; omega) ?_; intro v' w2 hown' hgrow _; obtain ⟨g', cap', rfl⟩ := ownsRow_succ hown'))
              have T2 : Touch [] w w2 := ((HTT.out.trans HT1.out (by simp)).alloc _).trans (Touch.of_grown hgrow) (fun k hk => .inr ((row_far HROW.out HT1.out (by simp)).lt k (by simpa using hk)).1)
              have hR2 : StrRow w2 w.heap.size (.slice (some ⟨g', 0, none⟩) (pre.length + 1) cap') (pre ++ [s]) := by
                unfold StrRow
                rw [List.map_append, List.length_append]
                exact hown'
              have HR2 := Lib.hid hR2
              have HT2 := Lib.hid T2
              clear hR2 T2 hown' hgrow
              go_roundw
              case rel =>
                refine ⟨p + (8 + n), _, pre ++ [s], rfl, by go_num, by omega, HR2.out, HT2.out, ?_⟩
                rw [HRE2.out, List.map_append, List.append_assoc]
                refine Prod.ext rfl ?_
                simp only []
                omega
              case measure => simp [intOf]; omega
            · rw [if_neg (fun h => hrt (bs_inj h))] at hhi
              obtain ⟨hE1, hE2⟩ := HEND.out (WM.recs_none hhi)
              have HE1 := Lib.hid hE1
              have HE2 := Lib.hid hE2
              have heq : (r.toList == (b.extract p (p + 8 + n)).toList) = false := toList_ne (ht ▸ hrt)
              have heq2 : (r.toList != (b.extract p (p + 8 + n)).toList) = true := by rw [bne, heq]; rfl
              clear hE1 hE2 hhi hr hrt
              go_wp2_with (go_at_call 71; rw [← hs]; refine (HREC.out _).mono ?_; rintro e w1 ⟨rfl, T1⟩; have HT1 := Lib.hid T1; clear T1)
              go_ret2
              exact ⟨v, by rw [HE2.out]; rfl, row_far HE1.out HT1.out (by simp), HTT.out.trans HT1.out (by simp)⟩
end Go.Proofs.YtmglkhnojimnlaaGreat

/- A log of the call's own. -/
namespace Go.Proofs.YtmglkhnojimnlaaGreat
open Go.RowKit Go.Maps

theorem Own.keepF {w0 w : World} {b n : Nat} {d : DM.D} (h : Own w0 w b n d) : ∃ S, DiskF w S b n d ∧ New w0 S ∧ Touch [] w0 w := by
  obtain ⟨mo, hd, T, hb, hm⟩ := h
  exact ⟨_, ⟨mo, hd, rfl⟩, fun k hk => by
    rcases List.mem_cons.1 hk with rfl | hk
    · exact hb
    · exact hm k (by simpa using hk), T⟩
theorem DiskF.own {w0 w : World} {S : List Nat} {b n : Nat} {d : DM.D} (h : DiskF w S b n d) (hn : New w0 S) (T : Touch [] w0 w) : Own w0 w b n d := by
  obtain ⟨mo, hd, rfl⟩ := h
  exact ⟨mo, hd, T, hn b (by simp), fun m hm => hn m (by simp [hm])⟩
/-- a log of the call's own -/
def OwnW (w0 w : World) (g b n : Nat) (x : LM.L) : Prop := ∃ S D sv, WalAt w S D sv g b n x ∧ New w0 S ∧ Touch [] w0 w
theorem OwnW.T {w0 w : World} {g b n : Nat} {x : LM.L} (h : OwnW w0 w g b n x) : Touch [] w0 w := by
  obtain ⟨S, D, sv, h1, h2, h3⟩ := h
  exact h3
theorem OwnW.touch {w0 w w' : World} {g b n : Nat} {x : LM.L} (h : OwnW w0 w g b n x) (ht : Touch [] w w') : OwnW w0 w' g b n x := by
  obtain ⟨S, D, sv, h1, h2, h3⟩ := h
  exact ⟨S, D, sv, h1.quiet ht, h2, h3.trans ht (by simp)⟩
theorem OwnW.own {w0 w : World} {g b n : Nat} {x : LM.L} (h : OwnW w0 w g b n x) : Own w0 w b n x.d := by
  obtain ⟨S, D, sv, h1, h2, h3⟩ := h
  exact h1.disk.own (fun k hk => h2 k (by rw [h1.foot]; simp [hk])) h3
theorem OwnW.small {w0 w : World} {g b n : Nat} {x : LM.L} (h : OwnW w0 w g b n x) : (WM.all x.l).length ≤ 1099511627776 := by
  obtain ⟨S, D, sv, h1, h2, h3⟩ := h
  exact h1.small
def OEnds (w0 : World) (g b n : Nat) (w : World) (r : Int × LM.L) (e : Ending) (w' : World) : Prop := e = .returned (.int .i64 r.1) ∧ OwnW w0 w' g b n r.2 ∧ KeepBut walTs w w'
theorem WEnds.own {w0 w w' : World} {S D : List Nat} {sv : Value} {g b n m : Nat} {x : LM.L} {r : Int × LM.L} {e : Ending} (h : WalAt w S D sv g b m x) (hn : New w0 S) (T : Touch [] w0 w) (he : WEnds S g b n w r e w') : OEnds w0 g b n w r e w' := by
  obtain ⟨rfl, S', D', sv', h1, h2, h3⟩ := he
  exact ⟨rfl, ⟨S', D', sv', h1, hn.fresh h3 T.size, hn.touch T h2⟩, KeepBut.of h.foots h2⟩
section
variable {w0 w : World} {g b n : Nat} {x : LM.L}
theorem oappend (h : OwnW w0 w g b n x) (hn : n < 1099511627775) (a : Option Addr) (cap : Nat) (ss : List ByteArray) (hT : TextsB w a ss)
    (hf : WM.Fits (ss.map bs)) (hsm : (WM.all (x.l ++ ss.map bs)).length ≤ 1099511627776) (hu : DM.used x.d.fl + (WM.all (ss.map bs)).length ≤ 1099511627776) :
    Calls Tryz.prog 19 #[.pointer (some ⟨g, 0, none⟩), .slice a ss.length cap] w (OEnds w0 g b (n + 2) w (LM.append x (ss.map bs))) := by
  obtain ⟨S, D, sv, h1, h2, h3⟩ := h
  exact (wappend_any h1 hn a cap ss hT hf hsm hu).mono fun e w' he => he.own h1 h2 h3
theorem osync (h : OwnW w0 w g b n x) (hn : n < 1099511627775) :
    Calls Tryz.prog 20 #[.pointer (some ⟨g, 0, none⟩)] w (OEnds w0 g b (n + 2) w (LM.sync x)) := by
  obtain ⟨S, D, sv, h1, h2, h3⟩ := h
  exact (wsync_any h1 hn).mono fun e w' he => he.own h1 h2 h3
theorem orewrite (h : OwnW w0 w g b n x) (hn : n < 1099511627700) (a : Option Addr) (cap : Nat) (ss : List ByteArray) (hT : TextsB w a ss)
    (hf : WM.Fits (ss.map bs)) (hsm : (WM.all (ss.map bs)).length ≤ 1099511627776) (hu : DM.used x.d.fl + (WM.all (ss.map bs)).length ≤ 1099511627776) :
    Calls Tryz.prog 22 #[.pointer (some ⟨g, 0, none⟩), .slice a ss.length cap] w (OEnds w0 g b (n + 8) w (LM.rewrite x (ss.map bs))) := by
  obtain ⟨S, D, sv, h1, h2, h3⟩ := h
  exact (wrewrite_any h1 hn a cap ss hT hf hsm hu).mono fun e w' he => he.own h1 h2 h3
theorem ofirm (h : OwnW w0 w g b n x) : Calls Tryz.prog 13 #[.pointer (some ⟨g, 0, none⟩)] w fun e w' => e = .returned (.int .i64 (x.firm : Int)) ∧ w' = w := by
  obtain ⟨S, D, sv, h1, h2, h3⟩ := h
  exact wfirm_any h1
theorem oarm (h : OwnW w0 w g b n x) (k : Int) :
    Calls Tryz.prog 27 #[.pointer (some ⟨b, 0, none⟩), .int .i64 k] w fun e w' => e = .returned (.tuple #[]) ∧ OwnW w0 w' g b n { x with d := DM.arm x.d k } ∧ KeepBut walTs w w' := by
  obtain ⟨S, D, sv, h1, h2, h3⟩ := h
  refine (darm h1.disk k).mono ?_
  rintro e w' ⟨rfl, hd, ht⟩
  have hD : ∀ k ∈ D, k ∈ S := fun k hk => by rw [h1.foot]; simp [hk]
  have hS := h1.foot
  refine ⟨rfl, ⟨_, D, sv, h1.turn hd ht, ?_, h2.touch h3 (ht.mono (fun k hk => .inl (hD k hk)))⟩, KeepBut.of h1.foots (ht.mono (fun k hk => .inl (hD k hk)))⟩
  rw [← hS]
  exact h2
theorem oon (h : OwnW w0 w g b n x) :
    Calls Tryz.prog 38 #[.pointer (some ⟨b, 0, none⟩)] w fun e w' => e = .returned (.bool (!x.d.off)) ∧ w' = w := on_own h.own
end
/-- a crash, picks that came in -/
theorem ocrash {w0 w : World} {b n : Nat} {d : DM.D} (h : Own w0 w b n d) (hn : n < 1099511627776) (a0 : Option Addr) (l0 c0 : Nat) (ps : List Int) (hp : Picks w0 (.slice a0 l0 c0) ps) :
    Calls Tryz.prog 21 #[.pointer (some ⟨b, 0, none⟩), .slice a0 l0 c0] w fun e w' => e = .returned (.tuple #[]) ∧ Own w0 w' b n (DM.crash d ps) ∧ KeepBut walTs w w' := by
  obtain ⟨S, hdf, hnew, _⟩ := h.keepF
  obtain ⟨mo, hd, T, hb, hm⟩ := h
  have hps : PicksAt (w.heap.size :: b :: mo.toList) w (.slice a0 l0 c0) ps := (hp _ (fun k hk => by
    rcases List.mem_cons.1 hk with rfl | hk
    · exact T.size
    · rcases List.mem_cons.1 hk with rfl | hk
      · exact hb
      · exact hm k (by simpa using hk))).touch (T.mono (by simp))
  refine (crash_any w b n mo d hd hn a0 l0 c0 ps hps).mono ?_
  rintro e w' ⟨rfl, hd', ht, _⟩
  have hf : DiskF w (b :: mo.toList) b n d := ⟨mo, hd, rfl⟩
  have hN : New w0 (b :: mo.toList) := fun k hk => by
    rcases List.mem_cons.1 hk with rfl | hk
    · exact hb
    · exact hm k (by simpa using hk)
  exact ⟨rfl, ⟨mo, hd', hN.touch T ht, hb, hm⟩, KeepBut.of (hf.foot.mono (by simp)) ht⟩
/-- a crash without picks -/
theorem Picks.nil_ (w : World) : Picks w (.slice none 0 0) [] := fun S _ => ⟨none, 0, rfl, Nat.le_refl _, Nat.zero_le _, by simp, fun h => absurd rfl h⟩
/-- how opening a disk of the call's own ends -/
def OBad (w0 : World) (b n : Nat) (w : World) (r : Int × DM.D) (e : Ending) (w' : World) : Prop :=
  e = .returned (.tuple #[.pointer none, .slice none 0 0, .int .i64 r.1]) ∧ Own w0 w' b n r.2 ∧ KeepBut walTs w w'
def OGood (w0 : World) (b n : Nat) (w : World) (r : (Int × DM.D) × List WM.Bs) (e : Ending) (w' : World) : Prop :=
  ∃ g a cap, e = .returned (.tuple #[.pointer (some ⟨g, 0, none⟩), .slice a r.2.length cap, .int .i64 0]) ∧ OwnW w0 w' g b n (LM.start r.1.2 r.2) ∧ TextsB w' a (r.2.map ofBs) ∧ (r.2.length ≤ cap ∧ (a = none → cap = 0)) ∧ cap ≤ maxLen ∧ KeepBut walTs w w'
theorem oopen {w0 w : World} {b n : Nat} {d : DM.D} (h : Own w0 w b n d) (hn : n < 1099511627600) :
    Calls Tryz.prog 18 #[.pointer (some ⟨b, 0, none⟩)] w fun e w' => ((LM.opened d).1.1 ≠ 0 → OBad w0 b (n + 6) w (LM.opened d).1 e w') ∧ ((LM.opened d).1.1 = 0 → OGood w0 b (n + 6) w (LM.opened d) e w') := by
  obtain ⟨S, hd, hN, T⟩ := h.keepF
  refine (open_any hd hn).mono ?_
  have hfo := hd.foot.mono (ts' := walTs) (by simp)
  rintro e w' (⟨h0, rfl, D', hd', ht, hf⟩ | ⟨h0, g, a, cap, S', D', sv, rfl, hW, htx, hl, hc, ht, hf⟩)
  · exact ⟨fun _ => ⟨rfl, hd'.own (hN.fresh hf T.size) (hN.touch T ht), KeepBut.of hfo ht⟩, fun h => absurd h h0⟩
  · exact ⟨fun h => absurd h0 h, fun _ => ⟨g, a, cap, rfl, ⟨S', D', sv, hW, hN.fresh hf T.size, hN.touch T ht⟩, htx, hl, hc, KeepBut.of hfo ht⟩⟩
theorem oopen_good {w0 w : World} {b n : Nat} {d : DM.D} (h : Own w0 w b n d) (hn : n < 1099511627600) {r : (Int × DM.D) × List WM.Bs} (hr : LM.opened d = r) (h0 : r.1.1 = 0) :
    Calls Tryz.prog 18 #[.pointer (some ⟨b, 0, none⟩)] w (OGood w0 b (n + 6) w r) := by
  subst hr
  exact (oopen h hn).mono fun e w' he => he.2 h0
theorem onew (w0 w : World) (T : Touch [] w0 w) (r : Int) (hr : (Lit.int .i64 r).wf = true) :
    Calls Tryz.prog 5 #[.int .i64 r] w fun e w' => e = .returned (.pointer (some ⟨w.heap.size, 0, none⟩)) ∧ Own w0 w' w.heap.size 0 (DM.new r) ∧ Touch [] w w' := by
  refine (new_any r hr w).mono ?_
  rintro e w' ⟨rfl, hd, ht⟩
  exact ⟨rfl, ⟨none, hd, T.trans ht (by simp), T.size, by simp⟩, ht⟩
end Go.Proofs.YtmglkhnojimnlaaGreat

/- law10: awake: the chapter's examples. -/
namespace Go.Proofs.YtmglkhnojimnlaaGreat
open Go.RowKit Go.Maps

abbrev tA : ByteArray := ⟨#[97]⟩
abbrev tB : ByteArray := ⟨#[98]⟩
abbrev tC : ByteArray := ⟨#[99]⟩
abbrev tZ : ByteArray := ⟨#[122]⟩
def aw0 : DM.D := DM.new 1000
def awx0 : LM.L := LM.start aw0 []
def awx1 : LM.L := (LM.append awx0 ([tA, tB].map bs)).2
def awx2 : LM.L := (LM.sync awx1).2
def awx3 : LM.L := (LM.append awx2 ([tC].map bs)).2
def awd4 : DM.D := DM.crash awx3.d []
def awx5 : LM.L := LM.start (LM.opened awd4).1.2 ([tA, tB].map bs)
def awx6 : LM.L := (LM.rewrite awx5 ([tZ].map bs)).2
theorem awRec : recS tA = ⟨#[0, 0, 0, 1, 229, 140, 151, 146, 97]⟩ := by kernel_rfl
theorem awOpen0 : LM.opened (DM.new 1000) = ((0, aw0), []) := by kernel_rfl
theorem awOpen4 : LM.opened awd4 = ((0, (LM.opened awd4).1.2), [tA, tB].map bs) := by kernel_rfl
theorem awRew : LM.rewrite awx5 ([tZ].map bs) = (0, awx6) := by kernel_rfl
theorem awOpen6 : LM.opened awx6.d = ((0, (LM.opened awx6.d).1.2), [tZ].map bs) := by kernel_rfl
theorem awFits1 : WM.Fits ([tA, tB].map bs) := by intro s hs; simp [bs] at hs; rcases hs with rfl | rfl <;> simp
theorem awFits2 : WM.Fits ([tC].map bs) := by intro s hs; simp [bs] at hs; subst hs; simp
theorem awFits3 : WM.Fits ([tZ].map bs) := by intro s hs; simp [bs] at hs; subst hs; simp
theorem awLe1 : (WM.all (awx0.l ++ [tA, tB].map bs)).length ≤ 1099511627776 ∧ DM.used awx0.d.fl + (WM.all ([tA, tB].map bs)).length ≤ 1099511627776 := of_decide_eq_true (by kernel_rfl)
theorem awLe2 : (WM.all (awx2.l ++ [tC].map bs)).length ≤ 1099511627776 ∧ DM.used awx2.d.fl + (WM.all ([tC].map bs)).length ≤ 1099511627776 := of_decide_eq_true (by kernel_rfl)
theorem awLe3 : (WM.all ([tZ].map bs)).length ≤ 1099511627776 ∧ DM.used awx5.d.fl + (WM.all ([tZ].map bs)).length ≤ 1099511627776 := of_decide_eq_true (by kernel_rfl)
theorem texts_new (w : World) (ss : List ByteArray) : TextsB (w.alloc (.cells (ss.map Value.string).toArray 9)) (some ⟨w.heap.size, 0, none⟩) ss :=
  .inr ⟨_, 0, _, rfl, Blk.new _ _ _, fun i hi => by simp [hi]⟩
set_option maxRecDepth 10000 in
set_option maxHeartbeats 1600000 in
theorem awake_any (w : World) : Calls Tryz.prog 4 #[] w fun e w' => e = .returned (.bool true) ∧ Touch [] w w' := by
  have hrec := record_any w tA (by decide)
  rw [if_pos (by decide), if_pos (by decide), awRec] at hrec
  have HREC := Lib.hid hrec
  clear hrec
  go_enter Tryz.func4, Tryz.ntmps4
  go_wp2_with fail
  refine HREC.out.mono ?_
  rintro e w1 ⟨rfl, T1⟩
  go_wp2_with fail
  refine (onew w w1 T1 1000 (by decide)).mono ?_
  rintro e w2 ⟨rfl, o2, T2⟩
  obtain ⟨B, hB⟩ : ∃ B, B = w1.heap.size := ⟨_, rfl⟩
  rw [← hB] at o2 ⊢
  clear hB T1 T2
  go_wp2_with fail
  refine (oopen_good o2 (by omega) awOpen0 rfl).mono ?_
  rintro e w3 ⟨g, a3, c3, rfl, o3, _, hl3, _, _⟩
  have o3' : OwnW w w3 g B (0 + 6) awx0 := o3
  have O3 := Lib.hid o3'
  have hz3 : (([] : List WM.Bs).length : Int) = 0 := rfl
  rw [show ([] : List WM.Bs).length = 0 from rfl]
  clear o3 o3' hl3 o2 hz3
  go_wp2_with fail
  have ht := texts_new w3 [tA, tB]
  refine (oappend (O3.out.touch ((Touch.refl [] w3).alloc _)) (by omega) _ 2 [tA, tB] ht awFits1 awLe1.1 awLe1.2).mono ?_
  rintro e w4 ⟨rfl, o4, _⟩
  have O4 := Lib.hid o4
  generalize (LM.append awx0 (List.map bs [tA, tB])).1 = q4
  clear o4 ht
  go_wp2_with fail
  refine (osync (show OwnW w w4 g B _ awx1 from O4.out) (by omega)).mono ?_
  rintro e w5 ⟨rfl, o5, _⟩
  have O5 := Lib.hid o5
  generalize (LM.sync awx1).1 = q5
  clear o5
  go_wp2_with fail
  have ht := texts_new w5 [tC]
  refine (oappend ((show OwnW w w5 g B _ awx2 from O5.out).touch ((Touch.refl [] w5).alloc _)) (by omega) _ 1 [tC] ht awFits2 awLe2.1 awLe2.2).mono ?_
  rintro e w6 ⟨rfl, o6, _⟩
  have O6 := Lib.hid (show OwnW w w6 g B _ awx3 from o6)
  generalize (LM.append awx2 (List.map bs [tC])).1 = q6
  clear o6 ht
  go_wp2_with fail
  refine (ocrash O6.out.own (by omega) none 0 0 [] (Picks.nil_ w)).mono ?_
  rintro e w7 ⟨rfl, o7, _⟩
  have O7 := Lib.hid (show Own w w7 B _ awd4 from o7)
  clear o7
  go_wp2_with fail
  refine (oopen_good O7.out (by omega) awOpen4 rfl).mono ?_
  rintro e w8 ⟨g8, a8, c8, rfl, o8, t8, hl8, hm8, _⟩
  have O8 := Lib.hid (show OwnW w w8 g8 B _ awx5 from o8)
  have HT8 := Lib.hid t8
  have HL8 := Lib.hid hl8
  rw [show (List.map bs [tA, tB]).length = 2 from rfl]
  clear o8 t8 hl8 hm8
  go_wp2_with fail
  have ht := texts_new w8 [tZ]
  have T89 : Touch [] w8 (w8.alloc (.cells #[.string tZ] 9)) := (Touch.refl [] w8).alloc _
  have HT9 := Lib.hid (HT8.out.touch T89)
  have hrw := orewrite (O8.out.touch T89) (by omega) _ 1 [tZ] ht awFits3 awLe3.1 awLe3.2
  rw [awRew] at hrw
  refine hrw.mono ?_
  rintro e w10 ⟨rfl, o10, k10⟩
  have O10 := Lib.hid o10
  have HT10 := Lib.hid (HT9.out.keep k10 (by decide))
  clear o10 k10 ht hrw T89
  go_wp2_with fail
  refine (oopen_good O10.out.own (by omega) awOpen6 rfl).mono ?_
  rintro e w11 ⟨g11, a11, c11, rfl, o11, t11, hl11, hm11, k11⟩
  have T11 := Lib.hid o11.T
  have h8 := (HT10.out.keep k11 (by decide)).texts
  have h11 := t11.texts
  rw [show (List.map bs [tZ]).length = 1 from rfl]
  obtain ⟨b8, f8, rfl, d8⟩ := h8 1 (by decide)
  obtain ⟨b11, f11, rfl, d11⟩ := h11 0 (by decide)
  have d8' : w11.cell? ⟨b8, f8 + 1, none⟩ = some (.string tB) := d8
  have d11' : w11.cell? ⟨b11, f11, none⟩ = some (.string tZ) := d11
  clear h8 h11 d8 d11 t11 hl11 hm11 k11 o11
  go_wp2_with fail
  go_ret
  exact ⟨rfl, T11.out⟩
end Go.Proofs.YtmglkhnojimnlaaGreat

/- The log as plain data: rooms, sizes, and whole plays. No program here. -/
namespace Go.Proofs.YtmglkhnojimnlaaGreat.LM
open DM (N F FL Sorted D)
open WM (Bs all Fits)

theorem thn_room (d : D) (e : Int) (f : FL → FL) : (DM.thn d e f).2.room = d.room := by
  unfold DM.thn DM.step
  split
  · split
    · split <;> rfl
    · split <;> rfl
  · rfl
theorem append_room (d : D) (k : N) (s : ByteArray) : (DM.append d k s).2.room = d.room := by
  unfold DM.append
  simp only
  split
  · rfl
  · exact thn_room _ _ _
theorem cut_room (d : D) (k : N) (n : Int) : (DM.cut d k n).2.room = d.room := by
  unfold DM.cut
  simp only
  split
  · rfl
  · exact thn_room _ _ _
theorem clear_room (d : D) : (clear d).2.room = d.room := by
  unfold clear
  split
  · exact thn_room _ _ _
  · rfl
theorem cutAt_room (d : D) (n k : Nat) : (cutAt d n k).2.room = d.room := by
  unfold cutAt
  split
  · rfl
  · exact cut_room _ _ _
theorem seq_room (r : Int × D) (f : D → Int × D) (m : Int) (h : r.2.room = m) (hf : ∀ d, (f d).2.room = d.room) : (seq r f).2.room = m := by
  unfold seq
  split
  · rw [hf, h]
  · exact h
theorem fixup_room (d : D) : (fixup d).1.2.room = d.room := by
  have h := seq_room (cutAt d (WM.recs (bs (DM.read d walN).1)).2 (DM.read d walN).1.size) (fun d => DM.sync d walN) d.room (cutAt_room _ _ _) (fun d => thn_room _ _ _)
  unfold fixup
  split
  · simp only
    split
    · exact h
    · exact h
  · rfl
theorem opened_room (d : D) : (opened d).1.2.room = d.room := by
  unfold opened
  split
  · rfl
  · split
    · split
      · rw [fixup_room, clear_room]
      · exact clear_room d
    · exact clear_room d
theorem rewriteD_room (d : D) (m : List Bs) : (rewriteD d m).2.room = d.room :=
  seq_room _ _ _ (seq_room _ _ _ (seq_room _ _ _ (clear_room d) (fun _ => append_room _ _ _)) (fun _ => thn_room _ _ _)) (fun _ => thn_room _ _ _)

theorem clear_good {d : D} {u : Nat} (h : DM.Good d u) : DM.Good (clear d).2 u := by
  unfold clear
  split
  · exact h.remove newN
  · exact h
theorem cutAt_good {d : D} {u : Nat} (h : DM.Good d u) (n k : Nat) : DM.Good (cutAt d n k).2 u := by
  unfold cutAt
  split
  · exact h
  · exact h.cut walN n
theorem seq_good {r : Int × D} {f : D → Int × D} {u v : Nat} (h : DM.Good r.2 u) (huv : u ≤ v) (hf : ∀ d, DM.Good d u → DM.Good (f d).2 v) : DM.Good (seq r f).2 v := by
  unfold seq
  split
  · exact hf _ h
  · exact h.mono huv
theorem fixup_good {d : D} {u : Nat} (h : DM.Good d u) : DM.Good (fixup d).1.2 u := by
  have hs := seq_good (f := fun d => DM.sync d walN) (cutAt_good h (WM.recs (bs (DM.read d walN).1)).2 (DM.read d walN).1.size) (Nat.le_refl u) (fun d hd => hd.sync walN)
  unfold fixup
  split
  · simp only
    split
    · exact hs
    · exact hs
  · exact h
theorem opened_good {d : D} {u : Nat} (h : DM.Good d u) : DM.Good (opened d).1.2 u := by
  unfold opened
  split
  · exact h
  · split
    · split
      · exact fixup_good (clear_good h)
      · exact clear_good h
    · exact clear_good h
theorem rewriteD_good {d : D} {u : Nat} (h : DM.Good d u) (m : List Bs) : DM.Good (rewriteD d m).2 (u + (all m).length) := by
  have h1 := seq_good (f := fun d => DM.append d newN (ofBs (all m))) (clear_good h) (show u ≤ u + (all m).length by omega) (fun d hd => by have := hd.append newN (ofBs (all m)); rwa [ofBs_size] at this)
  have h2 := seq_good (f := fun d => DM.sync d newN) h1 (Nat.le_refl _) (fun d hd => hd.sync newN)
  exact seq_good (f := fun d => DM.rename d newN walN) h2 (Nat.le_refl _) (fun d hd => hd.rename newN walN)
theorem append_good {x : L} {u : Nat} (h : DM.Good x.d u) (m : List Bs) : DM.Good (append x m).2.d (u + (all m).length) := by
  unfold append
  split
  · exact h.mono (by omega)
  · split
    · exact h.mono (by omega)
    · have := h.append walN (ofBs (all m))
      rw [ofBs_size] at this
      simp only
      split
      · exact this
      · exact this
theorem sync_good {x : L} {u : Nat} (h : DM.Good x.d u) : DM.Good (sync x).2.d u := by
  unfold sync
  split
  · exact h
  · split
    · exact h
    · have := h.sync walN
      simp only
      split
      · exact this
      · exact this
theorem rewrite_good {x : L} {u : Nat} (h : DM.Good x.d u) (m : List Bs) : DM.Good (rewrite x m).2.d (u + (all m).length) := by
  unfold rewrite
  split
  · exact h.mono (by omega)
  · have := rewriteD_good h m
    simp only
    split
    · exact this
    · exact this

/-- what a log that is not broken is -/
def InvL (x : L) : Prop := Inv x.d.fl x.l x.firm
theorem InvL.append {x : L} (h : InvL x) (hs : Sorted x.d.fl) (m : List Bs) (hm : Fits m) : InvL (append x m).2 := by
  unfold LM.append
  split
  · exact h
  · split
    · exact h
    · obtain ⟨h1, h2⟩ := Inv.append h hs m hm
      simp only
      split
      · rename_i h0
        exact h1 h0
      · rename_i h0
        exact h2 h0
theorem InvL.sync {x : L} (h : InvL x) (hs : Sorted x.d.fl) : InvL (sync x).2 := by
  unfold LM.sync
  split
  · exact h
  · split
    · exact h
    · obtain ⟨h1, h2⟩ := Inv.sync h hs
      simp only
      split
      · rename_i h0
        exact h1 h0
      · rename_i h0
        exact h2 h0
theorem InvL.rewrite {x : L} (h : InvL x) (hs : Sorted x.d.fl) (m : List Bs) (hm : Fits m) : InvL (rewrite x m).2 := by
  unfold LM.rewrite
  split
  · exact h
  · obtain ⟨h1, h2, _⟩ := Inv.rewrite h hs m hm
    simp only
    split
    · rename_i h0
      exact h1 h0
    · rename_i h0
      exact h2 h0
theorem append_ok (x : L) (m : List Bs) (hb : x.broken = false) (hm : m ≠ []) (h : (DM.append x.d walN (ofBs (all m))).1 = 0) : append x m = (0, { x with d := (DM.append x.d walN (ofBs (all m))).2, l := x.l ++ m }) := by
  unfold append
  rw [if_neg (by simp [hb]), if_neg hm]
  simp [said, h]
theorem sync_ok (x : L) (hb : x.broken = false) (hf : ¬ x.firm = x.l.length) (h : (DM.sync x.d walN).1 = 0) : sync x = (0, { x with d := (DM.sync x.d walN).2, firm := x.l.length }) := by
  unfold sync
  rw [if_neg (by simp [hb]), if_neg hf]
  simp [said, h]
/-- a disk with power for good -/
structure Calm (d : D) (room : Int) : Prop where
  off : d.off = false
  left : d.left = 0
  room : d.room = room
theorem Calm.crash (d : D) (ps : List Int) : Calm (DM.crash d ps) d.room := ⟨rfl, rfl, rfl⟩
theorem Calm.opened {d : D} {u : Int} {l : List Bs} (h : Calm d u) (hT : Torn d.fl l) (hs : Sorted d.fl) : Calm (opened d).1.2 u ∧ opened d = ((0, (opened d).1.2), l) ∧ Inv (opened d).1.2.fl l l.length := by
  have ho := opened_ends d l hT hs h.off
  obtain ⟨h1, h2⟩ := ho.left h.left
  obtain ⟨h3, h4, h5⟩ := ho.good h1
  exact ⟨⟨h5, h2, (opened_room d).trans h.room⟩, by rw [← h1, ← h3], h4⟩
theorem calm_append {d : D} {u : Nat} {room : Int} (h : Calm d room) (hg : DM.Good d u) (k : N) (hk : DM.bad k = false) (s : ByteArray) (hr : (u : Int) + s.size ≤ room) : (DM.append d k s).1 = 0 ∧ Calm (DM.append d k s).2 room := by
  have hu := hg.us
  have hm := DM.may1_in d k h.off hk
  have e : DM.append d k s = DM.thn d 0 (fun l => DM.put l k ((DM.getF l k).1 ++ s, (DM.getF l k).2)) := by
    unfold DM.append
    simp only [hm]
    rw [if_neg (by rw [h.room]; omega)]
  rw [e]
  obtain ⟨h1, h2⟩ := thn_left d (fun l => DM.put l k ((DM.getF l k).1 ++ s, (DM.getF l k).2)) h.left
  rcases thn_fl d 0 (fun l => DM.put l k ((DM.getF l k).1 ++ s, (DM.getF l k).2)) with ⟨_, _, h3⟩ | ⟨h3, _⟩
  · exact ⟨h1, h3.trans h.off, h2, (thn_room _ _ _).trans h.room⟩
  · exact absurd h1 h3
theorem calm_sync {d : D} {room : Int} (h : Calm d room) (k : N) (hk : DM.bad k = false) (hl : (DM.look d.fl k).isSome = true) : (DM.sync d k).1 = 0 ∧ Calm (DM.sync d k).2 room := by
  unfold DM.sync
  rw [may_in d k h.off hk hl]
  obtain ⟨h1, h2⟩ := thn_left d (fun l => DM.put l k ((DM.getF l k).1, (DM.getF l k).1.size)) h.left
  rcases thn_fl d 0 (fun l => DM.put l k ((DM.getF l k).1, (DM.getF l k).1.size)) with ⟨_, _, h3⟩ | ⟨h3, _⟩
  · exact ⟨h1, h3.trans h.off, h2, (thn_room _ _ _).trans h.room⟩
  · exact absurd h1 h3
theorem Inv.some {fl : FL} {l : List Bs} {firm : Nat} (h : Inv fl l firm) (hl : l ≠ []) : (DM.look fl walN).isSome = true := by
  have := h.at_
  cases hk : DM.look fl walN with
  | none => rw [hk] at this; exact absurd this hl
  | some f => rfl

/-- opened, appended to, crashed, opened twice, appended to and synced, crashed, opened -/
structure Again (A B : List Bs) (ps : List Int) (M : List Bs) (d0 d2 d3 d5 d6 : D) (y : L) : Prop where
  new : opened (DM.new 100000) = ((0, d0), [])
  u0 : DM.Good d0 0
  u1 : DM.Good (append (start d0 []) A).2.d (all A).length
  one : opened (DM.crash (append (start d0 []) A).2.d ps) = ((0, d2), M)
  two : opened d2 = ((0, d3), M)
  u3 : DM.Good d3 (all A).length
  begins : ∃ j, j ≤ A.length ∧ M = A.take j
  app : append (start d3 M) B = (0, y)
  uy : DM.Good y.d ((all A).length + (all B).length)
  syn : (sync y).1 = 0
  last : opened (DM.crash (sync y).2.d ps) = ((0, d6), M ++ B)
theorem again (A B : List Bs) (hA : Fits A) (hB : Fits B) (ha : (all A).length ≤ 2000) (hb : (all B).length ≤ 2000) (ps : List Int) : ∃ M d0 d2 d3 d5 d6 y, Again A B ps M d0 d2 d3 d5 d6 y := by
  have hn : opened (DM.new 100000) = ((0, DM.new 100000), []) := by kernel_rfl
  have g0 : DM.Good (DM.new 100000) 0 := DM.Good.new _
  have i0 : InvL (start (DM.new 100000) []) := Inv.empty
  have i1 := i0.append g0.sorted A hA
  have g1 := append_good (x := start (DM.new 100000) []) g0 A
  rw [Nat.zero_add] at g1
  have hl1 : ∃ j, j ≤ A.length ∧ (append (start (DM.new 100000) []) A).2.l = A.take j ∧ (append (start (DM.new 100000) []) A).2.firm = 0 ∧ (append (start (DM.new 100000) []) A).2.d.room = 100000 := by
    unfold append
    rw [if_neg (by simp [start])]
    split
    · exact ⟨0, Nat.zero_le _, by simp [start], rfl, rfl⟩
    · simp only
      split
      · exact ⟨A.length, Nat.le_refl _, by simp [said, start], rfl, append_room _ _ _⟩
      · exact ⟨0, Nat.zero_le _, by simp [said, start], rfl, append_room _ _ _⟩
  obtain ⟨j1, hj1, hl1, hf1, hr1⟩ := hl1
  obtain ⟨x1, hx1⟩ : ∃ x, x = (append (start (DM.new 100000) []) A).2 := ⟨_, rfl⟩
  rw [← hx1] at i1 g1 hl1 hf1 hr1
  obtain ⟨j, hj0, hj, hT⟩ := Inv.crash i1 ps
  rw [hl1] at hT hj
  have hM : ∃ i, i ≤ A.length ∧ (A.take j1).take j = A.take i := ⟨j, by rw [List.length_take] at hj; omega, by rw [List.take_take]; congr 1; rw [List.length_take] at hj; omega⟩
  obtain ⟨M, hMe⟩ : ∃ M, M = (A.take j1).take j := ⟨_, rfl⟩
  have hM2 := hM
  rw [← hMe] at hT
  have c1 : Calm (DM.crash x1.d ps) 100000 := by rw [← hr1]; exact Calm.crash _ _
  have gc := g1.crash ps
  obtain ⟨c2, o2, i2⟩ := c1.opened hT gc.sorted
  have g2 := opened_good gc
  obtain ⟨d2, hd2⟩ : ∃ d, d = (opened (DM.crash x1.d ps)).1.2 := ⟨_, rfl⟩
  rw [← hd2] at c2 o2 i2 g2
  obtain ⟨c3, o3, i3⟩ := c2.opened i2.torn g2.sorted
  have g3 := opened_good g2
  obtain ⟨d3, hd3⟩ : ∃ d, d = (opened d2).1.2 := ⟨_, rfl⟩
  rw [← hd3] at c3 o3 i3 g3
  have hMfit := hT.fits
  -- appended
  have gy := append_good (x := start d3 M) g3 B
  have iy : InvL (append (start d3 M) B).2 := InvL.append (x := start d3 M) i3 g3.sorted B hB
  have hy : (append (start d3 M) B).1 = 0 ∧ (append (start d3 M) B).2.l = M ++ B ∧ (append (start d3 M) B).2.broken = false ∧ Calm (append (start d3 M) B).2.d 100000 ∧ (append (start d3 M) B).2.firm = M.length := by
    by_cases hB0 : B = []
    · have e : append (start d3 M) B = (0, start d3 M) := by unfold append; rw [if_neg (by simp [start]), if_pos hB0]
      rw [e]
      subst hB0
      exact ⟨rfl, by simp [start], rfl, c3, rfl⟩
    · obtain ⟨q1, q2⟩ := calm_append c3 g3 walN bad_wal (ofBs (all B)) (by rw [ofBs_size]; omega)
      rw [append_ok (start d3 M) B rfl hB0 q1]
      exact ⟨rfl, rfl, rfl, q2, rfl⟩
  obtain ⟨hy1, hy2, hy3, hy4, hy5⟩ := hy
  obtain ⟨y, hye⟩ : ∃ y, y = (append (start d3 M) B).2 := ⟨_, rfl⟩
  have happ : append (start d3 M) B = (0, y) := by rw [hye, ← hy1]
  rw [← hye] at gy iy hy2 hy3 hy4 hy5
  -- synced
  have iz := iy.sync gy.sorted
  have gz := sync_good gy
  have hz : (sync y).1 = 0 ∧ (sync y).2.l = M ++ B ∧ (sync y).2.firm = (M ++ B).length ∧ (sync y).2.d.room = 100000 := by
    by_cases h : y.firm = y.l.length
    · have e : sync y = (0, y) := by unfold sync; rw [if_neg (by simp [hy3]), if_pos h]
      rw [e]
      exact ⟨rfl, hy2, by rw [h, hy2], hy4.room⟩
    · have hne : y.l ≠ [] := by intro e; rw [e] at h; rw [hy5] at h; rw [hy2] at e; simp at e; rw [e.1] at h; simp at h
      obtain ⟨q1, q2⟩ := calm_sync hy4 walN bad_wal (Inv.some iy hne)
      rw [sync_ok y hy3 h q1]
      exact ⟨rfl, hy2, by simp only [hy2], q2.room⟩
  obtain ⟨hz1, hz2, hz3, hz4⟩ := hz
  have iz' : Inv (sync y).2.d.fl (M ++ B) (M ++ B).length := by have := iz; unfold InvL at this; rwa [hz2, hz3] at this
  obtain ⟨k, hk0, hk1, hTz⟩ := iz'.crash ps
  obtain rfl : k = (M ++ B).length := by omega
  rw [List.take_length] at hTz
  have cz : Calm (DM.crash (sync y).2.d ps) 100000 := by rw [← hz4]; exact Calm.crash _ _
  obtain ⟨c6, o6, _⟩ := cz.opened hTz (gz.crash ps).sorted
  exact ⟨M, DM.new 100000, d2, d3, d3, _, y, hn, g0, by rw [← hx1]; exact g1, by rw [← hx1]; exact o2, o3, g3, (by obtain ⟨j, h1, h2⟩ := hM; exact ⟨j, h1, by rw [hMe]; exact h2⟩), happ, gy, hz1, o6⟩
end Go.Proofs.YtmglkhnojimnlaaGreat.LM

/- The log over a disk, plain: what its list can come to. -/
namespace Go.Proofs.YtmglkhnojimnlaaGreat.LM
open WM (Bs all recs Fits)

theorem append_l (x : L) (m : List Bs) : (append x m).2.l = x.l ∨ (append x m).2.l = x.l ++ m := by
  unfold append
  split
  · exact .inl rfl
  · split
    · exact .inl rfl
    · dsimp only
      split
      · exact .inr rfl
      · exact .inl rfl
theorem sync_l (x : L) : (sync x).2.l = x.l := by
  unfold sync
  split
  · rfl
  · split
    · rfl
    · dsimp only
      split <;> rfl
theorem rewrite_l (x : L) (m : List Bs) : (rewrite x m).2.l = x.l ∨ (rewrite x m).2.l = m := by
  unfold rewrite
  split
  · exact .inl rfl
  · dsimp only
    split
    · exact .inr rfl
    · exact .inl rfl
/-- what stays true of a log, whatever befalls it -/
structure Fine (u : Nat) (x : L) : Prop where
  good : DM.Good x.d u
  fits : Fits x.l
  small : (all x.l).length ≤ u
theorem Fine.more {u v : Nat} {x : L} (h : Fine u x) (hv : u ≤ v) : Fine v x := ⟨h.good.mono hv, h.fits, Nat.le_trans h.small hv⟩
theorem fits_append {l m : List Bs} (h : Fits l) (h' : Fits m) : Fits (l ++ m) := fun s hs => by
  rcases List.mem_append.1 hs with h1 | h1
  · exact h s h1
  · exact h' s h1
theorem Fine.append {u : Nat} {x : L} (h : Fine u x) (m : List Bs) (hm : Fits m) (hz : (all m).length ≤ 1664) : Fine (u + 1664) (append x m).2 := by
  refine ⟨(append_good h.good m).mono (by omega), ?_, ?_⟩
  · rcases append_l x m with h1 | h1 <;> rw [h1]
    · exact h.fits
    · exact fits_append h.fits hm
  · have := h.small
    rcases append_l x m with h1 | h1 <;> rw [h1]
    · omega
    · rw [WM.all_append, List.length_append]; omega
theorem Fine.sync {u : Nat} {x : L} (h : Fine u x) : Fine u (sync x).2 := ⟨sync_good h.good, by rw [sync_l]; exact h.fits, by rw [sync_l]; exact h.small⟩
theorem Fine.rewrite {u : Nat} {x : L} (h : Fine u x) (m : List Bs) (hm : Fits m) (hz : (all m).length ≤ 1664) : Fine (u + 1664) (rewrite x m).2 := by
  refine ⟨(rewrite_good h.good m).mono (by omega), ?_, ?_⟩
  · rcases rewrite_l x m with h1 | h1 <;> rw [h1]
    · exact h.fits
    · exact hm
  · have := h.small
    rcases rewrite_l x m with h1 | h1 <;> rw [h1] <;> omega
theorem recs_fine (b : ByteArray) : Fits (recs (bs b)).1 ∧ (all (recs (bs b)).1).length ≤ b.size := by
  obtain ⟨q1, q2, q3⟩ := recs_take _ (bs b) (Nat.le_refl _)
  have h3 := congrArg List.length q1
  rw [List.length_take, bs_length] at h3
  exact ⟨q3, by omega⟩
theorem read_le (d : DM.D) (k : DM.N) : (DM.read d k).1.size ≤ DM.used d.fl := by
  unfold DM.read
  split
  · rw [DM.getF_size]; exact DM.sz_le _ _
  · exact Nat.zero_le _
theorem fixup_l (d : DM.D) : Fits (fixup d).2 ∧ (all (fixup d).2).length ≤ DM.used d.fl := by
  unfold fixup
  have h0 : Fits ([] : List Bs) ∧ (all ([] : List Bs)).length ≤ DM.used d.fl := ⟨fun s hs => (by cases hs), Nat.zero_le _⟩
  split
  · dsimp only
    split
    · obtain ⟨h1, h2⟩ := recs_fine (DM.read d walN).1
      exact ⟨h1, Nat.le_trans h2 (read_le d walN)⟩
    · exact h0
  · exact h0
theorem Fine.opened {d : DM.D} {u : Nat} (h : DM.Good d u) : Fine u (start (LM.opened d).1.2 (LM.opened d).2) := by
  refine ⟨opened_good h, ?_, ?_⟩
  · show Fits (LM.opened d).2
    unfold LM.opened
    split
    · exact fun s hs => by cases hs
    · split
      · split
        · exact (fixup_l _).1
        · exact fun s hs => by cases hs
      · exact fun s hs => by cases hs
  · show (all (LM.opened d).2).length ≤ u
    unfold LM.opened
    split
    · exact Nat.zero_le _
    · split
      · split
        · exact Nat.le_trans (fixup_l _).2 (clear_good h).us
        · exact Nat.zero_le _
      · exact Nat.zero_le _
end Go.Proofs.YtmglkhnojimnlaaGreat.LM

/- The document's log: there, said, bytes. -/
namespace Go.Proofs.YtmglkhnojimnlaaGreat
open Go.RowKit Go.Maps DM
attribute [local go_sem] Oper.semAt_some

set_option maxRecDepth 10000 in
set_option maxHeartbeats 800000 in
theorem rthere_any (w : World) (B b n : Nat) (v : Value) (d : DM.D) (h : RefAt w B b v n d) (hn : n < 1099511627776) (k : ByteArray) :
    Calls Tryz.prog 59 #[.pointer (some ⟨b, 0, none⟩), .string k] w fun e w' => e = .returned (.bool (DM.look d.fl (nm k)).isSome) ∧ Touch [] w w' := by
  obtain ⟨a, cap, hv, hc, hm, h0, hop⟩ := h.open
  have c1 := h.c1
  rw [hv] at c1
  have hlen := h.fit.len
  have HOP := Lib.hid hop
  have H0 := Lib.hid h0
  have HS := Lib.hid h.fit.sorted
  have hlb : (d.fl.length : Int) ≤ 1099511627776 := by omega
  unfold maxLen at hm
  have HCC := Lib.hid (And.intro hc hm)
  clear hlen hop h0 hc hm hv
  go_enter Tryz.func59, Tryz.ntmps59
  go_wp2_with fail
  go_loop [5] (fun u => ∃ i : Nat, i ≤ d.fl.length ∧ u = .int .i64 i ∧ ∀ (j : Nat) (h : j < d.fl.length), j < i → d.fl[j].1 ≠ nm k) (fun u => d.fl.length - (intOf u).toNat)
  case atStart => exact ⟨0, Nat.zero_le _, rfl, fun j h hj => absurd hj (Nat.not_lt_zero _)⟩
  case round =>
    obtain ⟨i, hi, rfl, hlt⟩ := hrel
    have HLT := Lib.hid hlt
    clear hlt
    by_cases hil : i < d.fl.length
    · obtain ⟨g, o, sp, rfl⟩ : ∃ g o sp, a = some ⟨g, o, sp⟩ := by
        cases a with
        | none => have := (H0.out rfl).1; omega
        | some ad => exact ⟨ad.block, ad.off, ad.spot, rfl⟩
      obtain ⟨rfl, rfl, _, _, _, hcl⟩ := HOP.out g o sp rfl
      obtain ⟨x0, _, _⟩ := hcl i hil
      have heq := eq_str d.fl[i].1 k
      clear hcl
      by_cases hl : d.fl[i].1 = nm k
      · have heq' : ((str d.fl[i].1).toList == k.toList) = true := by rw [heq]; simpa using hl
        have his : (DM.look d.fl (nm k)).isSome = true := by rw [← hl, look_at HS.out i hil]; rfl
        have HIS := Lib.hid his
        obtain ⟨ks, hks⟩ : ∃ ks, ks = str d.fl[i].1 := ⟨_, rfl⟩
        rw [← hks] at x0 heq'
        clear heq hl hks his
        go_wp2_with fail
        go_ret
        exact ⟨by rw [HIS.out]; rfl, Touch.refl _ _⟩
      · have heq' : ((str d.fl[i].1).toList == k.toList) = false := by rw [heq]; simpa using hl
        have HL := Lib.hid hl
        obtain ⟨ks, hks⟩ : ∃ ks, ks = str d.fl[i].1 := ⟨_, rfl⟩
        rw [← hks] at x0 heq'
        have HKS := Lib.hid hks
        clear heq hl hks
        go_wp2_with fail
        go_round
        case rel =>
          refine ⟨i + 1, by omega, by go_num, fun j hj hji => ?_⟩
          by_cases e : j = i
          · subst e; exact HL.out
          · exact HLT.out j hj (by omega)
        case measure => simp [intOf]; omega
    · obtain rfl : i = d.fl.length := by omega
      have his : (DM.look d.fl (nm k)).isSome = false := by
        rw [look_none (k := nm k)]
        · rfl
        · intro hm
          unfold DM.names at hm
          rw [List.mem_map] at hm
          obtain ⟨p, hp, hpk⟩ := hm
          obtain ⟨j, hj, rfl⟩ := List.getElem_of_mem hp
          exact HLT.out j hj hj hpk
      have HIS := Lib.hid his
      clear his
      go_wp2_with fail
      go_ret
      exact ⟨by rw [HIS.out]; rfl, Touch.refl _ _⟩

/-- what an error makes of the mark -/
def brk (br : Bool) (k : Int) : Bool := br || (k != 0 && k != 15)
theorem rsaid_any (w : World) (r : Nat) (p lv f : Value) (br : Bool) (k : Int) (h : Blk w r 43 #[p, lv, f, .bool br]) :
    Calls Tryz.prog 66 #[.pointer (some ⟨r, 0, none⟩), .int .i64 k] w fun e w' => e = .returned (.int .i64 k) ∧ Blk w' r 43 #[p, lv, f, .bool (brk br k)] ∧ Touch [r] w w' := by
  have c3 : w.cell? ⟨r, 3, none⟩ = some (.bool br) := h.cell 3
  have z3 := h.frozen 3
  by_cases h0 : k = 0
  · subst h0
    have hb : brk br 0 = br := by unfold brk; simp
    rw [hb]
    have H := Lib.hid h
    clear h hb
    go_enter Tryz.func66, Tryz.ntmps66
    go_wp2_with fail
    go_ret
    exact ⟨rfl, H.out, Touch.refl _ _⟩
  · have h0' : (k == 0) = false := by simpa using h0
    have h0n : (k != 0) = true := by simpa using h0
    by_cases h15 : k = 15
    · subst h15
      have hb : brk br 15 = br := by unfold brk; simp
      rw [hb]
      have H := Lib.hid h
      clear h hb h0 h0' h0n
      go_enter Tryz.func66, Tryz.ntmps66
      go_wp2_with fail
      go_ret
      exact ⟨rfl, H.out, Touch.refl _ _⟩
    · have h15' : (k == 15) = false := by simpa using h15
      have h15n : (k != 15) = true := by simpa using h15
      have hb : brk br k = true := by unfold brk; rw [h0n, h15n]; simp
      rw [hb]
      have hn := h.set_ 3 (.bool true)
      have HN := Lib.hid hn
      have H := Lib.hid h
      clear h hb h0 h15 hn
      go_enter Tryz.func66, Tryz.ntmps66
      go_wp2_with fail
      go_ret
      exact ⟨rfl, HN.out, (Touch.refl [r] w).setCell _ _ (.inl (by simp))⟩
theorem ofBs_append (a b : WM.Bs) : ofBs (a ++ b) = ofBs a ++ ofBs b := by
  apply bs_inj
  rw [bs_append, bs_ofBs, bs_ofBs, bs_ofBs]
set_option maxRecDepth 10000 in
set_option maxHeartbeats 800000 in
theorem rbytes_any (w : World) (a : Option Addr) (cap : Nat) (ss : List ByteArray) (ht : Texts w a ss) (hf : WM.Fits (ss.map bs)) (hsm : (WM.all (ss.map bs)).length ≤ 1099511627776) :
    Calls Tryz.prog 35 #[.slice a ss.length cap] w fun e w' => e = .returned (.tuple #[.string (ofBs (WM.all (ss.map bs))), .int .i64 0]) ∧ Touch [] w w' := by
  have hlen : ss.length ≤ 137438953472 := by have := lens_le (ss.map bs); rw [List.length_map] at this; omega
  have hlb : (ss.length : Int) ≤ 137438953472 := by omega
  have HF := Lib.hid hf
  have HSM := Lib.hid hsm
  have HT := Lib.hid ht
  obtain ⟨l, hl⟩ : ∃ l, l = ss.map bs := ⟨_, rfl⟩
  rw [← hl] at HF HSM ⊢
  have hll : l.length = ss.length := by rw [hl, List.length_map]
  have hat : ∀ i (h : i < ss.length) (h' : i < l.length), l[i]'h' = bs ss[i] := fun i h h' => by subst hl; simp
  have HLL := Lib.hid hll
  have HAT := Lib.hid hat
  clear hf hsm ht hl hll hat hlen
  go_enter Tryz.func35, Tryz.ntmps35
  go_wp2_with fail
  go_loopw [4, 5] (fun s u wr => ∃ i : Nat, i ≤ ss.length ∧ s = .string (ofBs (WM.all (l.take i))) ∧ u = .int .i64 i ∧ Touch [] w wr) (fun _ u _ => ss.length - (intOf u).toNat)
  case atStart => exact ⟨0, Nat.zero_le _, rfl, rfl, Touch.refl [] w⟩
  case round =>
    obtain ⟨i, hi, rfl, rfl, hT⟩ := hrel
    have HTT := Lib.hid hT
    clear hT
    by_cases hlt : i < ss.length
    · obtain ⟨blk, off, rfl, hc⟩ := HT.out i hlt
      have hcr := HTT.out.cell hc (by simp)
      have hfit := HF.out (l[i]'(by have := HLL.out; omega)) (List.getElem_mem _)
      rw [HAT.out i hlt, bs_length] at hfit
      have hle := WM.all_take_mono l (show i + 1 ≤ ss.length by omega)
      have htk : l.take ss.length = l := List.take_of_length_le (by have := HLL.out; omega)
      rw [htk] at hle
      have hsn := all_snoc l i (by have := HLL.out; omega)
      rw [HAT.out i hlt (by have := HLL.out; omega)] at hsn
      have hrec := fun W => rrecord_any W ss[i] (by omega)
      rw [if_pos hfit, if_pos hfit] at hrec
      have hsn2 : ofBs (WM.all (l.take (i + 1))) = ofBs (WM.all (l.take i)) ++ recS ss[i] := by
        apply bs_inj
        rw [bs_append, bs_ofBs, bs_ofBs, bs_recS, hsn]
      have hsz := congrArg ByteArray.size hsn2
      rw [ByteArray.size_append, ofBs_size] at hsz
      have hsm := HSM.out
      obtain ⟨s, hs⟩ : ∃ s, s = ss[i] := ⟨_, rfl⟩
      obtain ⟨r, hr⟩ : ∃ r, r = recS s := ⟨_, rfl⟩
      obtain ⟨t, hte⟩ : ∃ t, t = ofBs (WM.all (l.take i)) := ⟨_, rfl⟩
      rw [← hs, ← hr] at hrec hsn2 hsz
      rw [← hte] at hsn2 hsz ⊢
      rw [← hs] at hcr
      have hszI : (t.size : Int) + (r.size : Int) ≤ 1099511627776 := by omega
      have HR := Lib.hid hrec
      have HSN := Lib.hid hsn2
      clear hrec hsn hsn2 hle hfit hs hr hc htk hsz hsm hte
      go_wp2_with fail
      refine (HR.out _).mono ?_
      rintro e w1 ⟨rfl, T1⟩
      have HT1 := Lib.hid (HTT.out.trans T1 (by simp))
      clear T1
      go_wp2_with fail
      go_roundw
      case rel => exact ⟨i + 1, by omega, by rw [HSN.out], by go_num, HT1.out⟩
      case measure => simp [intOf]; omega
    · have hall : l.take i = l := List.take_of_length_le (by have := HLL.out; omega)
      rw [hall]
      obtain ⟨txt, htx⟩ : ∃ txt, txt = ofBs (WM.all l) := ⟨_, rfl⟩
      rw [← htx]
      have HTXT := Lib.hid htx
      clear htx hall
      go_wp2_with fail
      go_ret2
      exact ⟨by rw [← HTXT.out]; rfl, HTT.out⟩
set_option maxRecDepth 100000 in
theorem app_strs {w : World} {ops : Array Oper} {rest : List Oper} {o : Oper} {a : Act} {Q : Exit → Act → World → Prop} (hgd : o.guard = none) (s x : Operand)
    (ho : o.op = .call { callee := .builtin .append, args := #[s, x], argTypes := #[34, 34] })
    (B : Nat) (v : Value) (m : List ByteArray) (k : Nat) (hk : m.length = k) (hs : a.eval s = v) (hown : w.ownsRow B 9 1 v k (m.map .string))
    (ao : Option Addr) (l : List ByteArray) (n c : Nat) (hn : l.length = n) (hx : a.eval x = .slice ao n c) (hnone : ao = none → n = 0 ∧ c = 0)
    (hcells : Texts w ao l) (hlen : k + n ≤ 1099511627776) (hB : B ≤ w.heap.size)
    (h : ∀ v' w', StrRow w' B v' (m ++ l) → Touch v.ownBlock.toList w w' → wpList Tryz.prog ops Q rest (a.put o.dst v') w') : wpList Tryz.prog ops Q (o :: rest) a w := by
  obtain ⟨i0, hi, hz0, hz1, hz2⟩ := info_parts infoStr
  have hend : ∀ v' w', w'.ownsRow B 9 1 v' (k + n) (m.map .string ++ l.map .string) → StrRow w' B v' (m ++ l) := fun v' w' h => by
    unfold StrRow
    rw [List.map_append, List.length_append, hk, hn]
    exact h
  cases ao with
  | none =>
    obtain ⟨rfl, rfl⟩ := hnone rfl
    obtain rfl := List.length_eq_zero_iff.1 hn
    refine wpList_append_own_none hgd s x _ ho B _ i0 1 Tryz.underlying34 hi v k (m.map .string) hs hown hx ?_
    exact h v w (hend v w (by simpa using hown)) (Touch.refl _ _)
  | some ad =>
    refine wpList_append_own _ hgd s x _ ho B _ i0 _ 1 16 Tryz.underlying34 hi hz0 hz1 hz2 rfl (by decide) v k (m.map .string) hs hown ad n c (l.map .string) hx (by simp [hn]) ?_ (by simp [Value.oneCell']) (by unfold maxLen; omega) (by omega) hB ?_
    · intro j u hj
      rw [List.getElem?_map] at hj
      cases hlj : l[j]? with
      | none => rw [hlj] at hj; cases hj
      | some t =>
        rw [hlj] at hj
        cases hj
        have hjl := (List.getElem?_eq_some_iff.1 hlj).1
        obtain ⟨blk, off, e, hc⟩ := hcells j hjl
        cases e
        rw [add_none, hc]
        congr 2
        rw [List.getElem?_eq_getElem hjl] at hlj
        exact Option.some.inj hlj
    · intro v' w' h1 h2 _
      exact h v' w' (hend v' w' h1) (Touch.of_grown h2)
theorem TextsB.none {w : World} {ss : List ByteArray} (h : TextsB w none ss) : ss.length = 0 := by
  rcases h with h | ⟨_, _, _, h, _⟩
  · rw [h]; rfl
  · cases h
end Go.Proofs.YtmglkhnojimnlaaGreat

/- The document's log: its state, Append, Sync, Size. -/
namespace Go.Proofs.YtmglkhnojimnlaaGreat
open Go.RowKit Go.Maps
attribute [local go_sem] Oper.semAt_some

theorem map_ofBs_bs (l : List ByteArray) : (l.map bs).map ofBs = l := by
  rw [List.map_map]
  conv => rhs; rw [← List.map_id l]
  exact List.map_congr_left (fun y _ => ofBs_bs y)
theorem StrRow.shape {w : World} {B : Nat} {v : Value} {l : List ByteArray} (h : StrRow w B v l) : ∃ a q c, v = .slice a q c := by
  obtain ⟨a, c, e⟩ := ownsRow_shape h
  exact ⟨a, _, c, e⟩
def rwalV (e : Nat) (lv : Value) (firm : Nat) (br : Bool) : Array Value := #[.pointer (some ⟨e, 0, none⟩), lv, .int .i64 (firm : Int), .bool br]
/-- the document's log in memory: its own block, its disk, the row of its texts -/
structure RWal (w : World) (B r e : Nat) (dv lv : Value) (n : Nat) (x : LM.L) : Prop where
  disk : RefAt w B e dv n x.d
  blk : Blk w r 43 (rwalV e lv x.firm x.broken)
  row : StrRow w B lv (x.l.map ofBs)
  firm : x.firm ≤ 137438953472
  small : (WM.all x.l).length ≤ 1099511627776
abbrev refTs : List TypeId := [43, 41, 68, 9]
section
variable {w w' : World} {B r e n : Nat} {dv lv : Value} {x : LM.L}
theorem RefAt.dblk {d : DM.D} (h : RefAt w B e dv n d) : ∃ cs, Blk w e 41 cs := by
  obtain ⟨a, l, hb, _⟩ := h.blk
  exact ⟨_, hb⟩
theorem RWal.len (h : RWal w B r e dv lv n x) : x.l.length ≤ 137438953472 := by have := lens_le x.l; have := h.small; omega
theorem RWal.r_e (h : RWal w B r e dv lv n x) : r ≠ e := by
  obtain ⟨cs, hb⟩ := h.disk.dblk
  exact h.blk.ne_type hb (by decide)
theorem RWal.row_ne (h : RWal w B r e dv lv n x) : ∀ k, lv.ownBlock = some k → k ≠ r ∧ k ≠ e := fun k hk => by
  obtain ⟨cs, hb⟩ := row_blk h.row k hk
  obtain ⟨cs', hb'⟩ := h.disk.dblk
  exact ⟨hb.ne_type h.blk (by decide), hb.ne_type hb' (by decide)⟩
theorem RWal.files_ne (h : RWal w B r e dv lv n x) : ∀ k, dv.ownBlock = some k → k ≠ r ∧ k ≠ e ∧ lv.ownBlock ≠ some k := fun k hk => by
  obtain ⟨cs, hb⟩ := row_blk h.disk.files k hk
  obtain ⟨cs', hb'⟩ := h.disk.dblk
  refine ⟨hb.ne_type h.blk (by decide), hb.ne_type hb' (by decide), fun hl => ?_⟩
  obtain ⟨cs2, hb2⟩ := row_blk h.row k hl
  exact hb.ne_type hb2 (by decide) rfl
theorem RWal.touch {T : List Nat} (h : RWal w B r e dv lv n x) (ht : Touch T w w') (h1 : r ∉ T) (h2 : e ∉ T) (h3 : ∀ k, dv.ownBlock = some k → k ∉ T) (h4 : ∀ k, lv.ownBlock = some k → k ∉ T) : RWal w' B r e dv lv n x :=
  ⟨h.disk.touch ht h2 h3, ht.blk h.blk h1, row_far h.row ht h4, h.firm, h.small⟩
theorem RWal.quiet (h : RWal w B r e dv lv n x) (ht : Touch [] w w') : RWal w' B r e dv lv n x := h.touch ht (by simp) (by simp) (by simp) (by simp)
theorem RWal.more {m : Nat} (h : RWal w B r e dv lv n x) (hm : n ≤ m) : RWal w B r e dv lv m x := ⟨h.disk.more hm, h.blk, h.row, h.firm, h.small⟩
/-- the disk was at work -/
theorem RWal.turn {dv' : Value} {m : Nat} {d : DM.D} (h : RWal w B r e dv lv n x) (hd : RefAt w' B e dv' m d) (ht : Touch [e] w w') : RWal w' B r e dv' lv m { x with d := d } :=
  ⟨hd, ht.blk h.blk (by simpa using h.r_e), row_far h.row ht (fun k hk => by simpa using (h.row_ne k hk).2), h.firm, h.small⟩
/-- .. and its error was told -/
theorem RWal.mark {br : Bool} (h : RWal w B r e dv lv n x) (hb : Blk w' r 43 (rwalV e lv x.firm br)) (ht : Touch [r] w w') : RWal w' B r e dv lv n { x with broken := br } :=
  ⟨h.disk.touch ht (by simpa using h.r_e.symm) (fun k hk => by simpa using (h.files_ne k hk).1), hb, row_far h.row ht (fun k hk => by simpa using (h.row_ne k hk).1), h.firm, h.small⟩
theorem RWal.said {dv' : Value} {m : Nat} {R : Int × DM.D} {w1 w2 w3 : World} (h : RWal w B r e dv lv n x) (T1 : Touch [] w w1) (hd : RefAt w2 B e dv' m R.2) (T2 : Touch [e] w1 w2)
    (hb : Blk w3 r 43 (rwalV e lv x.firm (brk x.broken R.1))) (T3 : Touch [r] w2 w3) : RWal w3 B r e dv' lv m (LM.said x R).2 ∧ Touch [r, e] w w3 :=
  ⟨(((h.quiet T1).turn hd T2).mark hb T3), ((T1.mono (S' := [r, e]) (by simp)).trans T2 (fun k hk => .inl (by simp at hk; simp [hk]))).trans T3 (fun k hk => .inl (by simp at hk; simp [hk]))⟩
theorem RWal.lv_shape (h : RWal w B r e dv lv n x) : ∃ a cap, lv = .slice a x.l.length cap ∧ (x.l.length ≤ cap ∧ (a = none → cap = 0)) ∧ cap ≤ maxLen ∧ TextsB w a (x.l.map ofBs) := by
  obtain ⟨a, cap, h1, h2, h3, h4⟩ := h.row.open'
  rw [List.length_map] at h1 h2
  exact ⟨a, cap, h1, h2, h3, h4⟩
/-- a new row of texts -/
theorem RWal.newRow {lv' : Value} {l : List WM.Bs} {w1 : World} (h : RWal w B r e dv lv n x) (hr : StrRow w1 B lv' (l.map ofBs)) (ht : Touch lv.ownBlock.toList w w1) (hs : (WM.all l).length ≤ 1099511627776) :
    RWal (w1.setCell ⟨r, 1, none⟩ lv') B r e dv lv' n { x with l := l } ∧ Touch (r :: e :: lv.ownBlock.toList) w (w1.setCell ⟨r, 1, none⟩ lv') := by
  have hrl : r ∉ lv.ownBlock.toList := fun hm => (h.row_ne r (by simpa using hm)).1 rfl
  have hel : e ∉ lv.ownBlock.toList := fun hm => (h.row_ne e (by simpa using hm)).2 rfl
  have hb1 := ht.blk h.blk hrl
  have hd1 := h.disk.touch ht hel (fun k hk hm => (h.files_ne k hk).2.2 (by simpa using hm))
  have t2 : Touch [r] w1 (w1.setCell ⟨r, 1, none⟩ lv') := (Touch.refl _ _).setCell _ _ (.inl (by simp))
  refine ⟨⟨hd1.touch t2 (by simpa using h.r_e.symm) (fun k hk => by simpa using (h.files_ne k hk).1), hb1.set_ 1 lv', row_far hr t2 (fun k hk hm => ?_), h.firm, hs⟩, (ht.mono (S' := r :: e :: lv.ownBlock.toList) (fun k hk => .inl (by simp [hk]))).trans t2 (fun k hk => .inl (by simp at hk; simp [hk]))⟩
  obtain ⟨cs, hb⟩ := row_blk hr k hk
  exact hb.ne_type hb1 (by decide) (by simpa using hm)
theorem RWal.setFirm (h : RWal w B r e dv lv n x) (k : Nat) (hk : k ≤ 137438953472) :
    RWal (w.setCell ⟨r, 2, none⟩ (.int .i64 (k : Int))) B r e dv lv n { x with firm := k } ∧ Touch [r] w (w.setCell ⟨r, 2, none⟩ (.int .i64 (k : Int))) := by
  have t : Touch [r] w (w.setCell ⟨r, 2, none⟩ (.int .i64 (k : Int))) := (Touch.refl _ _).setCell _ _ (.inl (by simp))
  exact ⟨⟨h.disk.touch t (by simpa using h.r_e.symm) (fun k hk => by simpa using (h.files_ne k hk).1), h.blk.set_ 2 _, row_far h.row t (fun k hk => by simpa using (h.row_ne k hk).1), hk, h.small⟩, t⟩
end
/-- how a call of it ends -/
def RWEnds (B r e : Nat) (lv : Value) (n : Nat) (w : World) (res : Int × LM.L) (en : Ending) (w' : World) : Prop :=
  en = .returned (.int .i64 res.1) ∧ ∃ dv' lv', RWal w' B r e dv' lv' n res.2 ∧ Touch (r :: e :: lv.ownBlock.toList) w w'
section
variable {w : World} {B r e n : Nat} {dv lv : Value} {x : LM.L}
theorem RWEnds.same {m : Nat} (h : RWal w B r e dv lv n x) (hm : n ≤ m) {w' : World} (ht : Touch [] w w') (k : Int) : RWEnds B r e lv m w (k, x) (.returned (.int .i64 k)) w' :=
  ⟨rfl, dv, lv, (h.quiet ht).more hm, ht.mono (by simp)⟩
theorem rwsize_any (h : RWal w B r e dv lv n x) (hf : WM.Fits x.l) :
    Calls Tryz.prog 15 #[.pointer (some ⟨r, 0, none⟩)] w fun en w' => en = .returned (.int .i64 ((WM.all x.l).length : Int)) ∧ Touch [] w w' := by
  obtain ⟨a, cap, rfl, hc, hm, hT⟩ := h.lv_shape
  have c1 : w.cell? ⟨r, 1, none⟩ = some (.slice a x.l.length cap) := h.blk.cell 1
  have hid := map_bs_ofBs x.l
  have hb := rbytes_any w a cap (x.l.map ofBs) hT.texts (by rw [hid]; exact hf) (by rw [hid]; exact h.small)
  rw [hid, List.length_map] at hb
  have hsz : (ofBs (WM.all x.l)).size = (WM.all x.l).length := ofBs_size _
  obtain ⟨t, ht⟩ : ∃ t, t = ofBs (WM.all x.l) := ⟨_, rfl⟩
  obtain ⟨q, hq⟩ : ∃ q, q = (WM.all x.l).length := ⟨_, rfl⟩
  rw [← ht] at hb hsz
  rw [← hq] at hsz ⊢
  have HB := Lib.hid hb
  have hlen := h.len
  clear hb h hf hc hT hid ht hq
  go_enter Tryz.func15, Tryz.ntmps15
  go_wp2_with fail
  refine HB.out.mono ?_
  rintro en w1 ⟨rfl, T1⟩
  go_wp2_with fail
  go_ret
  exact ⟨rfl, T1⟩
set_option maxRecDepth 100000 in
set_option maxHeartbeats 800000 in
theorem rwsync_any (h : RWal w B r e dv lv n x) (hn : n < 1099511627773) (hB : B ≤ w.heap.size) :
    Calls Tryz.prog 31 #[.pointer (some ⟨r, 0, none⟩)] w (RWEnds B r e lv (n + 2) w (LM.sync x)) := by
  obtain ⟨a, cap, hlv, hc, hm, hT⟩ := h.lv_shape
  have c0 : w.cell? ⟨r, 0, none⟩ = some (.pointer (some ⟨e, 0, none⟩)) := h.blk.cell 0
  have c1 : w.cell? ⟨r, 1, none⟩ = some lv := h.blk.cell 1
  have c2 : w.cell? ⟨r, 2, none⟩ = some (.int .i64 (x.firm : Int)) := h.blk.cell 2
  have c3 : w.cell? ⟨r, 3, none⟩ = some (.bool x.broken) := h.blk.cell 3
  rw [hlv] at c1
  have hlen := h.len
  have hlI : (x.l.length : Int) ≤ 137438953472 := by omega
  have hfI : (x.firm : Int) ≤ 137438953472 := by have := h.firm; omega
  have HE := Lib.hid (fun W (T : Touch [] w W) k => RWEnds.same h (show n ≤ n + 2 by omega) T k)
  by_cases hb : x.broken = true
  · have he : LM.sync x = (13, x) := by unfold LM.sync; rw [if_pos hb]
    rw [he]
    rw [hb] at c3
    clear he hb h hT hc hlv hlen
    go_enter Tryz.func31, Tryz.ntmps31
    go_wp2_with fail
    go_ret
    exact HE.out _ (Touch.refl _ _) 13
  · have hb' : x.broken = false := by simpa using hb
    rw [hb'] at c3
    by_cases h0 : x.firm = x.l.length
    · have he : LM.sync x = (0, x) := by unfold LM.sync; rw [if_neg hb, if_pos h0]
      rw [he]
      rw [h0] at c2
      clear he hb h hT hc hlv hlen h0 hb' hfI
      go_enter Tryz.func31, Tryz.ntmps31
      go_wp2_with fail
      go_quiet (fail)
      go_wp2_with fail
      go_ret
      exact HE.out _ (Touch.drewN [] _ _) 0
    · obtain ⟨R, hR⟩ : ∃ R, R = DM.sync x.d LM.walN := ⟨_, rfl⟩
      have he : LM.sync x = if R.1 = 0 then (0, { (LM.said x R).2 with firm := x.l.length }) else LM.said x R := by
        unfold LM.sync
        rw [if_neg hb, if_neg h0, ← hR]
        rfl
      have hds := fun W (T : Touch [] w W) => rsync_any W B e n dv x.d (h.quiet T).disk hn (by have := T.size; omega) walS (by decide)
      rw [nm_wal, ← hR] at hds
      have HDS := Lib.hid hds
      have H := Lib.hid h
      have h0I : ¬ (x.firm : Int) = (x.l.length : Int) := by omega
      obtain ⟨RES, hRES⟩ : ∃ RES, RES = if R.1 = 0 then (0, { (LM.said x R).2 with firm := x.l.length }) else LM.said x R := ⟨_, rfl⟩
      rw [he, ← hRES]
      have HRS := Lib.hid hRES
      clear hRES
      have HLV := Lib.hid hlv
      have HLEN := Lib.hid hlen
      clear hds hR he hb h hT hc hlv hlen h0
      go_enter Tryz.func31, Tryz.ntmps31
      go_wp2_with fail
      go_quiet (fail)
      go_wp2_with fail
      refine (HDS.out _ (Touch.drewN [] _ _)).mono ?_
      rintro en w2 ⟨rfl, dv', hd2, t2⟩
      have hsd := rsaid_any w2 r _ _ _ _ R.1 (((H.out.quiet (Touch.drewN [] _ _)).turn hd2 t2).blk)
      have HSD := Lib.hid hsd
      have HD2 := Lib.hid hd2
      have HT2 := Lib.hid t2
      obtain ⟨rv, hrv⟩ : ∃ rv, rv = R.1 := ⟨_, rfl⟩
      rw [← hrv] at HSD ⊢
      have HRV := Lib.hid hrv
      clear hsd hd2 t2 hrv
      go_wp2_with fail
      refine HSD.out.mono ?_
      rintro en w3 ⟨rfl, hb3, t3⟩
      rw [HRV.out] at hb3
      obtain ⟨hw3, T3⟩ := H.out.said (Touch.drewN [] _ _) HD2.out HT2.out hb3 t3
      have d1 : w3.cell? ⟨r, 1, none⟩ = some (.slice a x.l.length cap) := by rw [← HLV.out]; exact hw3.blk.cell 1
      have d2 : w3.cell? ⟨r, 2, none⟩ = some (.int .i64 (x.firm : Int)) := hw3.blk.cell 2
      have z2 := hw3.blk.frozen 2
      have HW3 := Lib.hid hw3
      have HT3 := Lib.hid T3
      clear hw3 T3 hb3 t3
      by_cases hz : rv = 0
      · subst hz
        obtain ⟨hw4, t4⟩ := HW3.out.setFirm x.l.length HLEN.out
        have hres : RWEnds B r e lv (n + 2) w RES (.returned (.int .i64 0)) (w3.setCell ⟨r, 2, none⟩ (.int .i64 (x.l.length : Int))) :=
          by rw [HRS.out, ← HRV.out, if_pos rfl]; exact ⟨rfl, _, _, hw4, (HT3.out.mono (S' := r :: e :: lv.ownBlock.toList) (fun k hk => .inl (by simp at hk; rcases hk with h | h <;> simp [h]))).trans t4 (fun k hk => .inl (by simp at hk; simp [hk]))⟩
        have HRES := Lib.hid hres
        clear hw4 t4 hres
        go_wp2_with fail
        go_ret
        exact HRES.out
      · have hz' : (rv == 0) = false := by simpa using hz
        have hres : RWEnds B r e lv (n + 2) w RES (.returned (.int .i64 rv)) w3 := by
          rw [HRS.out, ← HRV.out, if_neg hz]
          exact ⟨by rw [HRV.out]; rfl, _, _, HW3.out, HT3.out.mono (S' := r :: e :: lv.ownBlock.toList) (fun k hk => .inl (by simp at hk; rcases hk with h | h <;> simp [h]))⟩
        have HRES := Lib.hid hres
        clear hz hres
        go_wp2_with fail
        go_ret
        exact HRES.out
set_option maxRecDepth 100000 in
set_option maxHeartbeats 1600000 in
theorem rwappend_any (h : RWal w B r e dv lv n x) (hn : n < 1099511627773) (hB : B ≤ w.heap.size) (a : Option Addr) (cap : Nat) (ss : List ByteArray) (hT : TextsB w a ss) (hno : a = none → cap = 0)
    (hf : WM.Fits (ss.map bs)) (hsm : (WM.all (x.l ++ ss.map bs)).length ≤ 1099511627776) (hu : DM.used x.d.fl + (WM.all (ss.map bs)).length ≤ 1099511627776) :
    Calls Tryz.prog 33 #[.pointer (some ⟨r, 0, none⟩), .slice a ss.length cap] w (RWEnds B r e lv (n + 2) w (LM.append x (ss.map bs))) := by
  have c3 : w.cell? ⟨r, 3, none⟩ = some (.bool x.broken) := h.blk.cell 3
  have HE := Lib.hid (fun W (T : Touch [] w W) k => RWEnds.same h (show n ≤ n + 2 by omega) T k)
  have hsm2 : (WM.all (ss.map bs)).length ≤ 1099511627776 := by rw [WM.all_append, List.length_append] at hsm; omega
  have hln : ss.length ≤ 137438953472 := by have := lens_le (ss.map bs); rw [List.length_map] at this; omega
  have hlb : (ss.length : Int) ≤ 137438953472 := by omega
  have HWH := Lib.hid (rbytes_any w a cap ss hT.texts hf hsm2)
  by_cases hb : x.broken = true
  · have he : LM.append x (ss.map bs) = (13, x) := by unfold LM.append; rw [if_pos hb]
    rw [he]
    rw [hb] at c3
    clear he hb h hT hf hsm hsm2 hu hln
    go_enter Tryz.func33, Tryz.ntmps33
    go_wp2_with fail
    go_ret
    exact HE.out _ (Touch.refl _ _) 13
  · have hb' : x.broken = false := by simpa using hb
    rw [hb'] at c3
    by_cases h0 : ss = []
    · have he : LM.append x (ss.map bs) = (0, x) := by unfold LM.append; rw [if_neg hb, if_pos (by rw [h0]; rfl)]
      rw [he]
      have hl0 : ss.length = 0 := by rw [h0]; rfl
      rw [hl0] at HWH ⊢
      clear he hb h hT hf hsm hsm2 hu hl0 hlb h0 hln
      generalize ofBs (WM.all (ss.map bs)) = txt at HWH
      go_enter Tryz.func33, Tryz.ntmps33
      go_wp2_with fail
      refine HWH.out.mono ?_
      rintro en w1 ⟨rfl, T1⟩
      go_wp2_with fail
      go_ret
      exact HE.out _ T1 0
    · have hlp : 0 < ss.length := List.length_pos_iff.2 h0
      have hlpI : ¬ (ss.length : Int) = 0 := by omega
      have hmn : ss.map bs ≠ [] := by simpa using h0
      obtain ⟨R, hR⟩ : ∃ R, R = DM.append x.d LM.walN (ofBs (WM.all (ss.map bs))) := ⟨_, rfl⟩
      have he : LM.append x (ss.map bs) = if R.1 = 0 then (0, { (LM.said x R).2 with l := x.l ++ ss.map bs }) else LM.said x R := by
        unfold LM.append
        rw [if_neg hb, if_neg hmn, ← hR]
        rfl
      have hda := fun W (T : Touch [] w W) => rappend_any W B e n dv x.d (h.quiet T).disk hn (by have := T.size; omega) walS (ofBs (WM.all (ss.map bs))) (by decide) (by rw [ofBs_size]; exact hu)
      rw [nm_wal, ← hR] at hda
      have HDA := Lib.hid hda
      have H := Lib.hid h
      obtain ⟨RES, hRES⟩ : ∃ RES, RES = if R.1 = 0 then (0, { (LM.said x R).2 with l := x.l ++ ss.map bs }) else LM.said x R := ⟨_, rfl⟩
      rw [he, ← hRES]
      have HRS := Lib.hid hRES
      clear hRES
      have HSM := Lib.hid hsm
      have HTX := Lib.hid hT
      have HNO := Lib.hid hno
      have c0 := fun W (T : Touch [] w W) => (h.quiet T).blk.cell 0
      have C0 := Lib.hid c0
      generalize ofBs (WM.all (ss.map bs)) = txt at HWH HDA
      clear hda hR he hb h hT hf hsm hsm2 hu h0 hmn c0 hln hno
      go_enter Tryz.func33, Tryz.ntmps33
      go_wp2_with fail
      refine HWH.out.mono ?_
      rintro en w1 ⟨rfl, T1⟩
      have HT1 := Lib.hid T1
      have e0 : w1.cell? ⟨r, 0, none⟩ = some (.pointer (some ⟨e, 0, none⟩)) := C0.out w1 T1
      clear T1
      go_wp2_with fail
      refine (HDA.out _ HT1.out).mono ?_
      rintro en w2 ⟨rfl, dv', hd2, t2⟩
      have hsd := rsaid_any w2 r _ _ _ _ R.1 (((H.out.quiet HT1.out).turn hd2 t2).blk)
      have HSD := Lib.hid hsd
      have HD2 := Lib.hid hd2
      have HT2 := Lib.hid t2
      obtain ⟨rv, hrv⟩ : ∃ rv, rv = R.1 := ⟨_, rfl⟩
      rw [← hrv] at HSD ⊢
      have HRV := Lib.hid hrv
      clear hsd hd2 t2 hrv e0
      go_wp2_with fail
      refine HSD.out.mono ?_
      rintro en w3 ⟨rfl, hb3, t3⟩
      rw [HRV.out] at hb3
      obtain ⟨hw3, T3⟩ := H.out.said HT1.out HD2.out HT2.out hb3 t3
      have d1 : w3.cell? ⟨r, 1, none⟩ = some lv := hw3.blk.cell 1
      have HW3 := Lib.hid hw3
      have HT3 := Lib.hid T3
      clear hw3 T3 hb3 t3
      by_cases hz : rv = 0
      · subst hz
        have htx3 : TextsB w3 a ss := HTX.out.keep (ts := [43, 41]) (KeepBut.of (Foot.cons H.out.blk (by simp) (Foot.cons H.out.disk.dblk.choose_spec (by simp) (fun k hk => by cases hk))) HT3.out) (by decide)
        have HTX3 := Lib.hid htx3
        have hrw : w3.ownsRow B 9 1 lv x.l.length ((x.l.map ofBs).map .string) := by
          have := HW3.out.row
          unfold StrRow at this
          rw [List.length_map] at this
          exact this
        have HRW := Lib.hid hrw
        have hxm : (x.l.map ofBs).length = x.l.length := List.length_map ..
        have HXM := Lib.hid hxm
        have hxl : x.l.length ≤ 137438953472 := H.out.len
        clear htx3 hrw hxm
        go_wp2_with (at_builtin; refine app_strs rfl (.tmp 38) (.tmp 39) rfl B lv (x.l.map ofBs) x.l.length HXM.out rfl HRW.out a ss ss.length cap rfl rfl (fun h => ⟨(h ▸ HTX3.out : TextsB w3 none ss).none, HNO.out h⟩) HTX3.out.texts (by omega) (by have := HT3.out.size; omega) ?_; intro lv' w4 hr4 t4; obtain ⟨a4, q4, c4, rfl⟩ := StrRow.shape hr4; have hb4 := t4.blk HW3.out.blk (fun hm => (HW3.out.row_ne r (by simpa using hm)).1 rfl); have y4 : w4.cell? ⟨r, 1, none⟩ = some lv := hb4.cell 1; have z4 := hb4.frozen 1; have HR4 := Lib.hid hr4; have HT4 := Lib.hid t4; clear hr4 t4 hb4)
        obtain ⟨hw5, t5⟩ := HW3.out.newRow (l := x.l ++ ss.map bs) (by rw [List.map_append, map_ofBs_bs]; exact HR4.out) HT4.out HSM.out
        have hres : RWEnds B r e lv (n + 2) w RES (.returned (.int .i64 0)) (w4.setCell ⟨r, 1, none⟩ (.slice a4 q4 c4)) := by
          rw [HRS.out, ← HRV.out, if_pos rfl]
          exact ⟨rfl, _, _, hw5, (HT3.out.mono (S' := r :: e :: lv.ownBlock.toList) (fun k hk => .inl (by simp at hk; rcases hk with h | h <;> simp [h]))).trans t5 (fun k hk => .inl hk)⟩
        have HRES := Lib.hid hres
        clear hw5 t5 hres
        go_wp2_with fail
        go_ret
        exact HRES.out
      · have hz' : (rv == 0) = false := by simpa using hz
        have hres : RWEnds B r e lv (n + 2) w RES (.returned (.int .i64 rv)) w3 := by
          rw [HRS.out, ← HRV.out, if_neg hz]
          exact ⟨by rw [HRV.out]; rfl, _, _, HW3.out, HT3.out.mono (S' := r :: e :: lv.ownBlock.toList) (fun k hk => .inl (by simp at hk; rcases hk with h | h <;> simp [h]))⟩
        have HRES := Lib.hid hres
        clear hz hres d1
        go_wp2_with fail
        go_ret
        exact HRES.out
end
end Go.Proofs.YtmglkhnojimnlaaGreat

/- The document's log: Rewrite. -/
namespace Go.Proofs.YtmglkhnojimnlaaGreat
open Go.RowKit Go.Maps
attribute [local go_sem] Oper.semAt_some

theorem StrRow.shapeL {w : World} {B : Nat} {v : Value} {l : List ByteArray} (h : StrRow w B v l) : ∃ a c, v = .slice a l.length c := ownsRow_shape h
theorem said_ok (x : LM.L) (R : Int × DM.D) (h : R.1 = 0) : (LM.said x R).2 = { x with d := R.2 } := by
  unfold LM.said
  rw [h]
  simp
set_option maxRecDepth 100000 in
set_option maxHeartbeats 6400000 in
theorem rwrewrite_any {w : World} {B r e n : Nat} {dv lv : Value} {x : LM.L} (h : RWal w B r e dv lv n x) (hn : n < 1099511627700) (hB : B ≤ w.heap.size) (a : Option Addr) (cap : Nat) (ss : List ByteArray) (hT : TextsB w a ss) (hno : a = none → cap = 0)
    (hf : WM.Fits (ss.map bs)) (hsm : (WM.all (ss.map bs)).length ≤ 1099511627776) (hu : DM.used x.d.fl + (WM.all (ss.map bs)).length ≤ 1099511627776) :
    Calls Tryz.prog 32 #[.pointer (some ⟨r, 0, none⟩), .slice a ss.length cap] w (RWEnds B r e lv (n + 8) w (LM.rewrite x (ss.map bs))) := by
  have c3 : w.cell? ⟨r, 3, none⟩ = some (.bool x.broken) := h.blk.cell 3
  have HE := Lib.hid (fun W (T : Touch [] w W) k => RWEnds.same h (show n ≤ n + 8 by omega) T k)
  have hln : ss.length ≤ 137438953472 := by have := lens_le (ss.map bs); rw [List.length_map] at this; omega
  have hlb : (ss.length : Int) ≤ 137438953472 := by omega
  have HWH := Lib.hid (rbytes_any w a cap ss hT.texts hf hsm)
  by_cases hb : x.broken = true
  · have he : LM.rewrite x (ss.map bs) = (13, x) := by unfold LM.rewrite; rw [if_pos hb]
    rw [he]
    rw [hb] at c3
    clear he hb h hT hf hsm hu hln
    go_enter Tryz.func32, Tryz.ntmps32
    go_wp2_with fail
    go_ret
    exact HE.out _ (Touch.refl _ _) 13
  · have hb' : x.broken = false := by simpa using hb
    rw [hb'] at c3
    obtain ⟨m, hm⟩ : ∃ m, m = ss.map bs := ⟨_, rfl⟩
    obtain ⟨txt, htx⟩ : ∃ txt, txt = ofBs (WM.all m) := ⟨_, rfl⟩
    obtain ⟨RES, hRES⟩ : ∃ RES, RES = LM.rewrite x m := ⟨_, rfl⟩
    have hml : m.length = ss.length := by rw [hm, List.length_map]
    rw [← hm, ← htx] at HWH
    rw [← hm] at hu hsm ⊢
    rw [← hRES]
    have hsz : DM.used (LM.clear x.d).2.fl + txt.size ≤ 1099511627776 := by
      have := LM.clear_used x.d h.disk.fit.sorted
      rw [htx, ofBs_size]; omega
    have hres : RES = if (LM.rewriteD x.d m).1 = 0 then (0, { (LM.said x (LM.rewriteD x.d m)).2 with l := m, firm := m.length }) else LM.said x (LM.rewriteD x.d m) := by
      rw [hRES]; unfold LM.rewrite; rw [if_neg hb]; rfl
    obtain ⟨c, hc⟩ : ∃ c, c = LM.clear x.d := ⟨_, rfl⟩
    rw [← hc] at hsz
    have hD : LM.rewriteD x.d m = LM.seq (LM.seq (LM.seq c (fun d => DM.append d LM.newN txt)) (fun d => DM.sync d LM.newN)) (fun d => DM.rename d LM.newN LM.walN) := by
      rw [hc, htx]; rfl
    have hbad : ∀ (wz : World) (dv' : Value) (k : Nat) (R : Int × DM.D), k ≤ n + 8 → LM.rewriteD x.d m = R → R.1 ≠ 0 → RWal wz B r e dv' lv k (LM.said x R).2 → Touch [r, e] w wz → RWEnds B r e lv (n + 8) w RES (.returned (.int .i64 R.1)) wz := by
      intro wz dv' k R hk hR hz hw ht
      rw [hres, hR, if_neg hz]
      exact ⟨rfl, _, _, hw.more hk, ht.mono (fun k hk => .inl (by simp at hk; rcases hk with h | h <;> simp [h]))⟩
    have hgood : ∀ (wz : World) (dv' lv' : Value) (k : Nat) (R : Int × DM.D), k ≤ n + 8 → LM.rewriteD x.d m = R → R.1 = 0 → RWal wz B r e dv' lv' k { (LM.said x R).2 with l := m, firm := m.length } → Touch (r :: e :: lv.ownBlock.toList) w wz → RWEnds B r e lv (n + 8) w RES (.returned (.int .i64 0)) wz := by
      intro wz dv' lv' k R hk hR hz hw ht
      rw [hres, hR, if_pos hz]
      exact ⟨rfl, _, _, hw.more hk, ht⟩
    have HBAD := Lib.hid hbad
    have HGOOD := Lib.hid hgood
    have HD := Lib.hid hD
    have hth := fun W (T : Touch [] w W) => rthere_any W B e n dv x.d (h.quiet T).disk (by omega) newS
    rw [nm_new] at hth
    obtain ⟨is, his⟩ : ∃ is, is = (DM.look x.d.fl LM.newN).isSome := ⟨_, rfl⟩
    have hcl : c = if is = true ∧ x.d.off = false then DM.remove x.d LM.newN else (0, x.d) := by rw [hc, his]; rfl
    have hrm := fun W (T : Touch [] w W) => rremove_any W B e n dv x.d (h.quiet T).disk (by omega) (by have := T.size; omega) newS (by decide)
    rw [nm_new] at hrm
    rw [← his] at hth
    have HTH := Lib.hid hth
    have HRM := Lib.hid hrm
    have H := Lib.hid h
    have HSZ := Lib.hid hsz
    have HTX := Lib.hid hT
    have HNO := Lib.hid hno
    have HSM := Lib.hid hsm
    have HML := Lib.hid hml
    have HM := Lib.hid hm
    obtain ⟨off, hoff⟩ : ∃ off, off = x.d.off := ⟨_, rfl⟩
    have C0 := Lib.hid (fun W (T : Touch [] w W) => (show W.cell? ⟨r, 0, none⟩ = some (.pointer (some ⟨e, 0, none⟩)) from (h.quiet T).blk.cell 0))
    have C2 := Lib.hid (fun W (T : Touch [] w W) => (show W.cell? ⟨e, 2, none⟩ = some (.bool off) from hoff ▸ (h.quiet T).disk.c2))
    rw [← hoff] at hcl
    have HCL := Lib.hid hcl
    clear hRES hres hbad hgood hD hth hrm hcl hc his hoff h hT hno hf hsm hu hml hm htx hb hb' hsz hln
    go_enter Tryz.func32, Tryz.ntmps32
    go_wp2_with fail
    refine HWH.out.mono ?_
    rintro en w1 ⟨rfl, T1⟩
    have HT1 := Lib.hid T1
    have e0 := C0.out w1 T1
    clear T1
    go_wp2_with fail
    refine (HTH.out w1 HT1.out).mono ?_
    rintro en w2 ⟨rfl, T2⟩
    have HT2 := Lib.hid (HT1.out.trans T2 (by simp))
    have f0 := C0.out w2 HT2.out
    have f2 := C2.out w2 HT2.out
    clear T2 e0
    have hways : (is = true ∧ off = false) ∨ ¬(is = true ∧ off = false) := Classical.em _
    have HW := Lib.hid hways
    clear hways
    rcases HW.out with hw | hw
    case' inl =>
      obtain ⟨h1, h2⟩ := hw
      subst h1 h2
      have hcc := HCL.out
      rw [if_pos ⟨rfl, rfl⟩] at hcc
      have HCC := Lib.hid hcc
      clear hcc HW HCL
      go_wp2_with fail
      refine (HRM.out w2 HT2.out).mono ?_
      rintro en w3 ⟨rfl, dv3, hd3, t3⟩
      rw [← HCC.out] at hd3 ⊢
      have hsd := rsaid_any w3 r _ _ _ _ c.1 (((H.out.quiet HT2.out).turn hd3 t3).blk)
      have HSD := Lib.hid hsd
      have HD3 := Lib.hid hd3
      have HT3 := Lib.hid t3
      obtain ⟨rv, hrv⟩ : ∃ rv, rv = c.1 := ⟨_, rfl⟩
      rw [← hrv] at HSD ⊢
      have HRV := Lib.hid hrv
      clear hsd hd3 t3 hrv f0 f2
      go_wp2_with fail
      refine HSD.out.mono ?_
      rintro en wz ⟨rfl, hb3, t3⟩
      rw [HRV.out] at hb3
      obtain ⟨hwz, Tz⟩ := H.out.said HT2.out HD3.out HT3.out hb3 t3
      clear hb3 t3
      have HTZ := Lib.hid Tz
      by_cases hz : rv = 0
      case' neg =>
        have hz' : (rv == 0) = false := by simpa using hz
        have hzn : (rv != 0) = true := by simpa using hz
        have hc1 : c.1 ≠ 0 := fun h => hz (by rw [HRV.out, h])
        have hend := HBAD.out wz dv3 (n + 2) c (by omega) (by rw [HD.out]; simp only [LM.seq, if_neg hc1]) hc1 hwz HTZ.out
        rw [← HRV.out] at hend
        have HEND := Lib.hid hend
        clear hz hc1 hend hwz Tz
        go_wp2_with fail
        go_ret
        exact HEND.out
      have hc1 : c.1 = 0 := by rw [← HRV.out, hz]
      rw [said_ok x c hc1] at hwz
      subst hz
      obtain ⟨k, hk⟩ : ∃ k, k = n + 2 := ⟨_, rfl⟩
      rw [← hk] at hwz
      have HWZ := Lib.hid hwz
      have HC1 := Lib.hid hc1
      have HK := Lib.hid (show k ≤ n + 2 by omega)
      have g0 : wz.cell? ⟨r, 0, none⟩ = some (.pointer (some ⟨e, 0, none⟩)) := hwz.blk.cell 0
      clear hc1 hwz Tz HRV HD3 HT3 HCC hk
      go_wp2_with fail
    case' inr =>
      have hcc := HCL.out
      rw [if_neg hw] at hcc
      have hc1 : c.1 = 0 := by rw [hcc]
      have hwz : RWal w2 B r e dv lv n { x with d := c.2 } := by
        rw [hcc]
        exact H.out.quiet HT2.out
      have HWZ := Lib.hid hwz
      have HC1 := Lib.hid hc1
      obtain ⟨k, hk⟩ : ∃ k, k = n := ⟨_, rfl⟩
      rw [← hk] at HWZ
      have HK := Lib.hid (show k ≤ n + 2 by omega)
      have HTZ := Lib.hid (HT2.out.mono (S' := [r, e]) (by simp))
      obtain ⟨wz, hwz2⟩ : ∃ wz, wz = w2 := ⟨_, rfl⟩
      obtain ⟨dv3, hdv3⟩ : ∃ z, z = dv := ⟨_, rfl⟩
      subst hwz2 hdv3
      have hio : is = false ∨ is = true ∧ off = true := by
        cases is <;> cases off <;> simp at hw ⊢
      clear hcc hc1 hwz HW HCL hk hw
      have g0 := f0
      rcases hio with h1 | ⟨h1, h2⟩
      case' inl =>
        subst h1
        go_wp2_with fail
      case' inr =>
        subst h1 h2
        go_wp2_with fail
    all_goals
      have hda := rappend_any wz B e k dv3 c.2 HWZ.out.disk (by have := HK.out; omega) (by have := HTZ.out.size; omega) newS txt (by decide) HSZ.out
      rw [nm_new] at hda
      obtain ⟨a4, ha⟩ : ∃ a, a = DM.append c.2 LM.newN txt := ⟨_, rfl⟩
      rw [← ha] at hda
      have HA4 := Lib.hid ha
      have HDA := Lib.hid hda
      clear hda ha
      refine HDA.out.mono ?_
      rintro en w4 ⟨rfl, dv4, hd, td⟩
      have hsd := rsaid_any w4 r _ _ _ _ a4.1 (HWZ.out.turn hd td).blk
      have HSD := Lib.hid hsd
      have HDD := Lib.hid hd
      have HTD := Lib.hid td
      obtain ⟨rv4, hrv⟩ : ∃ rv, rv = a4.1 := ⟨_, rfl⟩
      rw [← hrv] at HSD ⊢
      have HRV4 := Lib.hid hrv
      clear hsd hd td hrv HDA
      go_wp2_with fail
      refine HSD.out.mono ?_
      rintro en w5 ⟨rfl, hb3, t3⟩
      rw [HRV4.out] at hb3
      obtain ⟨hw5, T5⟩ := HWZ.out.said (Touch.refl [] wz) HDD.out HTD.out hb3 t3
      have HT5 := Lib.hid (HTZ.out.trans T5 (fun k hk => .inl hk))
      clear hb3 t3 T5 HSD HDD HTD
      by_cases hz : rv4 = 0
      case' neg =>
        have hz' : (rv4 == 0) = false := by simpa using hz
        have hzn : (rv4 != 0) = true := by simpa using hz
        have hc1 : a4.1 ≠ 0 := fun h => hz (by rw [HRV4.out, h])
        have hend := HBAD.out w5 dv4 (k + 2) a4 (by have := HK.out; omega) (by rw [HD.out]; simp only [LM.seq, if_pos HC1.out, ← HA4.out, if_neg hc1]) hc1 hw5 HT5.out
        rw [← HRV4.out] at hend
        have HEND := Lib.hid hend
        clear hz hc1 hend hw5
        go_wp2_with fail
        go_ret
        exact HEND.out
      have hc1 : a4.1 = 0 := by rw [← HRV4.out, hz]
      rw [said_ok _ a4 hc1] at hw5
      subst hz
      have HW5 := Lib.hid hw5
      have HC14 := Lib.hid hc1
      have g5 : w5.cell? ⟨r, 0, none⟩ = some (.pointer (some ⟨e, 0, none⟩)) := hw5.blk.cell 0
      clear hc1 hw5 HRV4 g0
      go_wp2_with fail
      have hda := rsync_any w5 B e (k + 2) dv4 a4.2 HW5.out.disk (by have := HK.out; omega) (by have := HT5.out.size; omega) newS (by decide)
      rw [nm_new] at hda
      obtain ⟨a6, ha⟩ : ∃ a, a = DM.sync a4.2 LM.newN := ⟨_, rfl⟩
      rw [← ha] at hda
      have HA6 := Lib.hid ha
      have HDA := Lib.hid hda
      clear hda ha
      refine HDA.out.mono ?_
      rintro en w6 ⟨rfl, dv6, hd, td⟩
      have hsd := rsaid_any w6 r _ _ _ _ a6.1 (HW5.out.turn hd td).blk
      have HSD := Lib.hid hsd
      have HDD := Lib.hid hd
      have HTD := Lib.hid td
      obtain ⟨rv6, hrv⟩ : ∃ rv, rv = a6.1 := ⟨_, rfl⟩
      rw [← hrv] at HSD ⊢
      have HRV6 := Lib.hid hrv
      clear hsd hd td hrv HDA
      go_wp2_with fail
      refine HSD.out.mono ?_
      rintro en w7 ⟨rfl, hb3, t3⟩
      rw [HRV6.out] at hb3
      obtain ⟨hw7, T7⟩ := HW5.out.said (Touch.refl [] w5) HDD.out HTD.out hb3 t3
      have HT7 := Lib.hid (HT5.out.trans T7 (fun k hk => .inl hk))
      clear hb3 t3 T7 HSD HDD HTD
      by_cases hz : rv6 = 0
      case' neg =>
        have hz' : (rv6 == 0) = false := by simpa using hz
        have hzn : (rv6 != 0) = true := by simpa using hz
        have hc1 : a6.1 ≠ 0 := fun h => hz (by rw [HRV6.out, h])
        have hend := HBAD.out w7 dv6 ((k + 2) + 2) a6 (by have := HK.out; omega) (by rw [HD.out]; simp only [LM.seq, if_pos HC1.out, ← HA4.out, if_pos HC14.out, ← HA6.out, if_neg hc1]) hc1 hw7 HT7.out
        rw [← HRV6.out] at hend
        have HEND := Lib.hid hend
        clear hz hc1 hend hw7
        go_wp2_with fail
        go_ret
        exact HEND.out
      have hc1 : a6.1 = 0 := by rw [← HRV6.out, hz]
      rw [said_ok _ a6 hc1] at hw7
      subst hz
      have HW7 := Lib.hid hw7
      have HC16 := Lib.hid hc1
      have g7 : w7.cell? ⟨r, 0, none⟩ = some (.pointer (some ⟨e, 0, none⟩)) := hw7.blk.cell 0
      clear hc1 hw7 HRV6 g5
      go_wp2_with fail
      have hda := rrename_any w7 B e ((k + 2) + 2) dv6 a6.2 HW7.out.disk (by have := HK.out; omega) (by have := HT7.out.size; omega) newS walS (by decide) (by decide)
      rw [nm_new, nm_wal] at hda
      obtain ⟨a8, ha⟩ : ∃ a, a = DM.rename a6.2 LM.newN LM.walN := ⟨_, rfl⟩
      rw [← ha] at hda
      have HA8 := Lib.hid ha
      have HDA := Lib.hid hda
      clear hda ha
      refine HDA.out.mono ?_
      rintro en w8 ⟨rfl, dv8, hd, td⟩
      have hsd := rsaid_any w8 r _ _ _ _ a8.1 (HW7.out.turn hd td).blk
      have HSD := Lib.hid hsd
      have HDD := Lib.hid hd
      have HTD := Lib.hid td
      obtain ⟨rv8, hrv⟩ : ∃ rv, rv = a8.1 := ⟨_, rfl⟩
      rw [← hrv] at HSD ⊢
      have HRV8 := Lib.hid hrv
      clear hsd hd td hrv HDA
      go_wp2_with fail
      refine HSD.out.mono ?_
      rintro en w9 ⟨rfl, hb3, t3⟩
      rw [HRV8.out] at hb3
      obtain ⟨hw9, T9⟩ := HW7.out.said (Touch.refl [] w7) HDD.out HTD.out hb3 t3
      have HT9 := Lib.hid (HT7.out.trans T9 (fun k hk => .inl hk))
      clear hb3 t3 T9 HSD HDD HTD
      by_cases hz : rv8 = 0
      case' neg =>
        have hz' : (rv8 == 0) = false := by simpa using hz
        have hzn : (rv8 != 0) = true := by simpa using hz
        have hc1 : a8.1 ≠ 0 := fun h => hz (by rw [HRV8.out, h])
        have hend := HBAD.out w9 dv8 (((k + 2) + 2) + 2) a8 (by have := HK.out; omega) (by rw [HD.out]; simp only [LM.seq, if_pos HC1.out, ← HA4.out, if_pos HC14.out, ← HA6.out, if_pos HC16.out, ← HA8.out]) hc1 hw9 HT9.out
        rw [← HRV8.out] at hend
        have HEND := Lib.hid hend
        clear hz hc1 hend hw9
        go_wp2_with fail
        go_ret
        exact HEND.out
      have hc1 : a8.1 = 0 := by rw [← HRV8.out, hz]
      rw [said_ok _ a8 hc1] at hw9
      subst hz
      have HW9 := Lib.hid hw9
      have HC18 := Lib.hid hc1
      have g9 : w9.cell? ⟨r, 0, none⟩ = some (.pointer (some ⟨e, 0, none⟩)) := hw9.blk.cell 0
      have l9 : w9.cell? ⟨r, 1, none⟩ = some lv := hw9.blk.cell 1
      have z9 := hw9.blk.frozen 1
      clear hc1 hw9 HRV8 g7
      have TA := (HT9.out).setCell ⟨r, 1, none⟩ (.slice none 0 0) (.inl (by simp))
      have htxA : TextsB (w9.setCell ⟨r, 1, none⟩ (.slice none 0 0)) a ss := HTX.out.keep (ts := [43, 41]) (KeepBut.of (Foot.cons H.out.blk (by simp) (Foot.cons H.out.disk.dblk.choose_spec (by simp) (fun k hk => by cases hk))) TA) (by decide)
      have HTXA := Lib.hid htxA
      have HNL := Lib.hid (show a = none → ss.length = 0 from fun h => by subst h; exact HTX.out.none)
      obtain ⟨hwA, tA⟩ := HW9.out.newRow (lv' := .slice none 0 0) (l := []) (StrRow.nil w9 B) (Touch.refl _ _) (by simp [WM.all])
      have HWA := Lib.hid hwA
      have HTA := Lib.hid (HT9.out.mono (S' := r :: e :: lv.ownBlock.toList) (fun k hk => .inl (by simp at hk; rcases hk with h | h <;> simp [h])) |>.trans tA (fun k hk => .inl hk))
      have hszA : B ≤ (w9.setCell ⟨r, 1, none⟩ (.slice none 0 0)).heap.size := by have := TA.size; omega
      have HSZA := Lib.hid hszA
      clear TA htxA hwA tA hszA
      go_wp2_with (at_builtin; refine app_strs rfl (.tmp 81) (.tmp 82) rfl B (.slice none 0 0) [] 0 rfl rfl (World.ownsRow_nil _ _ _ _) a ss ss.length cap rfl rfl (fun h => ⟨HNL.out h, HNO.out h⟩) HTXA.out.texts (by omega) HSZA.out ?_; intro lv' w10 hr t10; rw [List.nil_append] at hr; obtain ⟨a10, c10, rfl⟩ := hr.shapeL; have hbx := (show Touch [] _ w10 from t10).blk HWA.out.blk (by simp); have y1 : w10.cell? ⟨r, 1, none⟩ = some (.slice none 0 0) := hbx.cell 1; have z1 := hbx.frozen 1; have y2 : w10.cell? ⟨r, 2, none⟩ = some (.int .i64 (x.firm : Int)) := hbx.cell 2; have z2 := hbx.frozen 2; have HR10 := Lib.hid hr; have HT10 := Lib.hid t10; clear hr t10 hbx)
      obtain ⟨hwB, tB⟩ := HWA.out.newRow (lv' := .slice a10 ss.length c10) (l := m) (by rw [HM.out, map_ofBs_bs]; exact HR10.out) HT10.out HSM.out
      obtain ⟨hwC, tC⟩ := hwB.setFirm ss.length (by omega)
      have hend := HGOOD.out _ dv8 _ (k + 2 + 2 + 2) a8 (by have := HK.out; omega) (by rw [HD.out]; simp only [LM.seq, if_pos HC1.out, ← HA4.out, if_pos HC14.out, ← HA6.out, if_pos HC16.out, ← HA8.out]) HC18.out (by rw [said_ok x a8 HC18.out, HML.out]; exact hwC)
        ((HTA.out.trans tB (fun k hk => .inl (by simp [Value.ownBlock] at hk; rcases hk with h | h <;> simp [h]))).trans tC (fun k hk => .inl (by simp at hk; simp [hk])))
      have HEND := Lib.hid hend
      clear hwB tB hwC tC hend
      go_wp2_with fail
      go_ret
      exact HEND.out
end Go.Proofs.YtmglkhnojimnlaaGreat

/- The document's log: Open. -/
namespace Go.Proofs.YtmglkhnojimnlaaGreat
open Go.RowKit Go.Maps
attribute [local go_sem] Oper.semAt_some

theorem recs_small (d : DM.D) (hu : DM.used d.fl ≤ 1099511627776) : (WM.all (WM.recs (bs (DM.read d LM.walN).1)).1).length ≤ 1099511627776 ∧ (DM.read d LM.walN).1.size ≤ 1099511627776 ∧ (WM.recs (bs (DM.read d LM.walN).1)).2 ≤ (DM.read d LM.walN).1.size := by
  obtain ⟨q1, q2, q3⟩ := LM.recs_take _ (bs (DM.read d LM.walN).1) (Nat.le_refl _)
  have h2 := read_size d LM.walN
  rw [bs_length] at q2
  have h3 := congrArg List.length q1
  rw [List.length_take, bs_length] at h3
  exact ⟨by omega, by omega, q2⟩
/-- how the document's opening ends -/
def ROpens (B e n : Nat) (w : World) (o : (Int × DM.D) × List WM.Bs) (en : Ending) (w' : World) : Prop :=
  (o.1.1 ≠ 0 ∧ en = .returned (.tuple #[.pointer none, .int .i64 o.1.1]) ∧ ∃ dv', RefAt w' B e dv' n o.1.2 ∧ Touch [e] w w') ∨
  (o.1.1 = 0 ∧ ∃ r dv' lv', en = .returned (.tuple #[.pointer (some ⟨r, 0, none⟩), .int .i64 0]) ∧ RWal w' B r e dv' lv' n (LM.start o.1.2 o.2) ∧ Touch [e] w w' ∧ w.heap.size ≤ r)
set_option maxRecDepth 100000 in
set_option maxHeartbeats 6400000 in
theorem ropen_any {w : World} {B e n : Nat} {dv : Value} {d : DM.D} (h : RefAt w B e dv n d) (hn : n < 1099511627600) (hB : B ≤ w.heap.size) :
    Calls Tryz.prog 24 #[.pointer (some ⟨e, 0, none⟩)] w (ROpens B e (n + 6) w (LM.opened d)) := by
  obtain ⟨o, ho⟩ : ∃ o, o = LM.opened d := ⟨_, rfl⟩
  have HBAD := Lib.hid (show ∀ (wz : World) (dv' : Value) (k : Nat) (R : Int × DM.D), k ≤ n + 6 → LM.opened d = (R, []) → R.1 ≠ 0 → RefAt wz B e dv' k R.2 → Touch [e] w wz → ROpens B e (n + 6) w o (.returned (.tuple #[.pointer none, .int .i64 R.1])) wz from fun wz dv' k R hk hR hz hw ht => by
    rw [ho, hR]
    exact .inl ⟨hz, rfl, dv', hw.more hk, ht⟩)
  have HGOOD := Lib.hid (show ∀ (wz : World) (r : Nat) (dv' lv' : Value) (k : Nat) (R : Int × DM.D) (l : List WM.Bs), k ≤ n + 6 → LM.opened d = (R, l) → R.1 = 0 → RWal wz B r e dv' lv' k (LM.start R.2 l) → Touch [e] w wz → w.heap.size ≤ r → ROpens B e (n + 6) w o (.returned (.tuple #[.pointer (some ⟨r, 0, none⟩), .int .i64 0])) wz from fun wz r dv' lv' k R l hk hR hz hw ht hr => by
    rw [ho, hR]
    exact .inr ⟨hz, r, dv', lv', rfl, hw.more hk, ht, hr⟩)
  rw [← ho]
  have c2 := h.c2
  by_cases hoff : d.off = true
  · have he : LM.opened d = ((14, d), []) := by unfold LM.opened; rw [if_pos hoff]
    have hend := HBAD.out w dv n (14, d) (by omega) he (by simp) h (Touch.refl _ _)
    have HEND := Lib.hid hend
    rw [hoff] at c2
    clear he hend h ho hoff
    go_enter Tryz.func24, Tryz.ntmps24
    go_wp2_with fail
    go_ret2
    exact HEND.out
  · have hoff' : d.off = false := by simpa using hoff
    obtain ⟨c, hc⟩ : ∃ c, c = LM.clear d := ⟨_, rfl⟩
    have heq : LM.opened d = if c.1 = 0 then (if (DM.look c.2.fl LM.walN).isSome = true then LM.fixup c.2 else ((0, c.2), [])) else (c, []) := by
      unfold LM.opened
      rw [if_neg hoff, ← hc]
    have HEQ := Lib.hid heq
    have hth := rthere_any w B e n dv d h (by omega) newS
    rw [nm_new] at hth
    obtain ⟨is, his⟩ : ∃ is, is = (DM.look d.fl LM.newN).isSome := ⟨_, rfl⟩
    have hcl : c = if is = true then DM.remove d LM.newN else (0, d) := by rw [hc, his]; unfold LM.clear; simp [hoff']
    rw [← his] at hth
    have hrm := fun W (T : Touch [] w W) => rremove_any W B e n dv d (h.touch T (by simp) (by simp)) (by omega) (by have := T.size; omega) newS (by decide)
    rw [nm_new] at hrm
    have HTH := Lib.hid hth
    have HRM := Lib.hid hrm
    have HCL := Lib.hid hcl
    have H := Lib.hid h
    rw [hoff'] at c2
    clear heq hth hrm hcl hc his h hoff hoff' ho
    go_enter Tryz.func24, Tryz.ntmps24
    go_wp2_with fail
    refine HTH.out.mono ?_
    rintro en w2 ⟨rfl, T2⟩
    have HT2 := Lib.hid T2
    clear T2
    cases is
    case' true =>
      have hcc := HCL.out
      rw [if_pos rfl] at hcc
      have HCC := Lib.hid hcc
      clear hcc HCL
      go_wp2_with fail
      refine (HRM.out w2 HT2.out).mono ?_
      rintro en wz ⟨rfl, dv3, hd3, t3⟩
      rw [← HCC.out] at hd3 ⊢
      have HTZ := Lib.hid ((HT2.out.mono (S' := [e]) (by simp)).trans t3 (fun k hk => .inl hk))
      obtain ⟨rv, hrv⟩ : ∃ rv, rv = c.1 := ⟨_, rfl⟩
      rw [← hrv]
      have HRV := Lib.hid hrv
      clear t3 hrv
      by_cases hz : rv = 0
      case' neg =>
        have hz' : (rv == 0) = false := by simpa using hz
        have hzn : (rv != 0) = true := by simpa using hz
        have hc1 : c.1 ≠ 0 := fun h => hz (by rw [HRV.out, h])
        have hend := HBAD.out wz dv3 (n + 2) c (by omega) (by rw [HEQ.out, if_neg hc1]) hc1 hd3 HTZ.out
        rw [← HRV.out] at hend
        have HEND := Lib.hid hend
        clear hz hc1 hend hd3
        go_wp2_with fail
        go_ret2
        exact HEND.out
      have hc1 : c.1 = 0 := by rw [← HRV.out, hz]
      subst hz
      obtain ⟨k, hk⟩ : ∃ k, k = n + 2 := ⟨_, rfl⟩
      rw [← hk] at hd3
      have HDZ := Lib.hid hd3
      have HC1 := Lib.hid hc1
      have HK := Lib.hid (show k ≤ n + 2 by omega)
      clear hc1 hd3 HRV HCC hk
    case' false =>
      have hcc := HCL.out
      rw [if_neg (by decide)] at hcc
      have hc1 : c.1 = 0 := by rw [hcc]
      have hdz : RefAt w2 B e dv n c.2 := by
        rw [hcc]
        exact H.out.touch HT2.out (by simp) (by simp)
      have HDZ := Lib.hid hdz
      have HC1 := Lib.hid hc1
      obtain ⟨k, hk⟩ : ∃ k, k = n := ⟨_, rfl⟩
      rw [← hk] at HDZ
      have HK := Lib.hid (show k ≤ n + 2 by omega)
      have HTZ := Lib.hid (HT2.out.mono (S' := [e]) (by simp))
      obtain ⟨wz, hwz2⟩ : ∃ wz, wz = w2 := ⟨_, rfl⟩
      obtain ⟨dv3, hdv3⟩ : ∃ z, z = dv := ⟨_, rfl⟩
      subst hwz2 hdv3
      clear hcc hc1 hdz HCL hk
    all_goals
      obtain ⟨wa, hwa⟩ : ∃ wa, wa = wz.alloc (.cells #[.pointer (some ⟨e, 0, none⟩), .slice none 0 0, .int .i64 0, .bool false] 43) := ⟨_, rfl⟩
      have Ta : Touch [] wz wa := hwa ▸ (Touch.refl [] wz).alloc _
      have hra : RWal wa B wz.heap.size e dv3 (.slice none 0 0) k (LM.start c.2 []) :=
        ⟨HDZ.out.touch Ta (by simp) (by simp), hwa ▸ Blk.new _ _ _, StrRow.nil _ _, by simp [LM.start], by simp [LM.start, WM.all]⟩
      obtain ⟨r, hr⟩ : ∃ r, r = wz.heap.size := ⟨_, rfl⟩
      have HRL := Lib.hid (show w.heap.size ≤ r by have := HTZ.out.size; omega)
      rw [← hr] at hra
      have HWA := Lib.hid hwa
      have HRA := Lib.hid hra
      have HTA := Lib.hid (HTZ.out.trans Ta (by simp))
      have HREQ := Lib.hid hr
      have hth := rthere_any wa B e k dv3 c.2 hra.disk (by have := HK.out; omega) walS
      rw [nm_wal] at hth
      obtain ⟨js, hjs⟩ : ∃ js, js = (DM.look c.2.fl LM.walN).isSome := ⟨_, rfl⟩
      rw [← hjs] at hth
      have HJS := Lib.hid hjs
      have HTH2 := Lib.hid hth
      clear hwa hra hth hjs hr Ta HTZ HTH
      go_wp2_with fail
      rw [← HWA.out]
      refine HTH2.out.mono ?_
      rintro en w4 ⟨rfl, T4⟩
      have HW4 := Lib.hid (HRA.out.quiet T4)
      have HT4 := Lib.hid (HTA.out.trans T4 (by simp))
      clear T4
      rw [← HREQ.out]
      cases js
      case' false =>
        have hend := HGOOD.out w4 r dv3 (.slice none 0 0) k (0, c.2) [] (by have := HK.out; omega) (by rw [HEQ.out, if_pos HC1.out, if_neg (by rw [← HJS.out]; simp)]) rfl HW4.out HT4.out HRL.out
        have HEND := Lib.hid hend
        clear hend
        go_wp2_with fail
        go_ret2
        exact HEND.out
      have hfix : LM.opened d = LM.fixup c.2 := by rw [HEQ.out, if_pos HC1.out, if_pos HJS.out.symm]
      have hrd := rread_any w4 B e k dv3 c.2 HW4.out.disk (by have := HK.out; omega) walS (by decide)
      rw [nm_wal] at hrd
      obtain ⟨q1, q2, q3⟩ := recs_small c.2 HDZ.out.fit.small
      have hfx : ∀ (R : Int × DM.D), R = LM.seq (LM.cutAt c.2 (WM.recs (bs (DM.read c.2 LM.walN).1)).2 (DM.read c.2 LM.walN).1.size) (fun d => DM.sync d LM.walN) → (DM.read c.2 LM.walN).2 = 0 → LM.opened d = if R.1 = 0 then (R, (WM.recs (bs (DM.read c.2 LM.walN).1)).1) else (R, []) := fun R hR h0 => by
        rw [hfix]; unfold LM.fixup; rw [if_pos h0, hR]
      have hfy : (DM.read c.2 LM.walN).2 ≠ 0 → LM.opened d = (((DM.read c.2 LM.walN).2, c.2), []) := fun h0 => by
        rw [hfix]; unfold LM.fixup; rw [if_neg h0]
      obtain ⟨txt, htxt⟩ : ∃ txt, txt = (DM.read c.2 LM.walN).1 := ⟨_, rfl⟩
      obtain ⟨ec, hec⟩ : ∃ ec, ec = (DM.read c.2 LM.walN).2 := ⟨_, rfl⟩
      rw [← htxt, ← hec] at hrd hfx
      rw [← hec] at hfy
      rw [← htxt] at q1 q2 q3
      have hrs := fun W => rrecords_any W txt q2
      obtain ⟨Rc, hRc⟩ : ∃ Rc, Rc = WM.recs (bs txt) := ⟨_, rfl⟩
      rw [← hRc] at q1 q3 hfx hrs
      have HRD := Lib.hid hrd
      have HFX := Lib.hid hfx
      have HFY := Lib.hid hfy
      have HRS := Lib.hid hrs
      have HQ1 := Lib.hid q1
      clear hfix hrd hfx hfy htxt hec hrs hRc q1 HEQ HC1 HJS
      go_wp2_with fail
      refine HRD.out.mono ?_
      rintro en w5 ⟨rfl, j5, hw5⟩
      have HW5 := Lib.hid (HW4.out.quiet (hw5 ▸ Touch.drewN [] w4 j5))
      have HT5 := Lib.hid (HT4.out.trans (hw5 ▸ Touch.drewN [] w4 j5 : Touch [] w4 w5) (by simp))
      clear hw5
      by_cases hz : ec = 0
      case' neg =>
        have hz' : (ec == 0) = false := by simpa using hz
        have hzn : (ec != 0) = true := by simpa using hz
        have hend := HBAD.out w5 dv3 k (ec, c.2) (by have := HK.out; omega) (HFY.out hz) hz HW5.out.disk HT5.out
        have HEND := Lib.hid hend
        clear hz hend
        go_wp2_with fail
        go_ret2
        exact HEND.out
      subst hz
      go_wp2_with fail
      refine (HRS.out w5).mono ?_
      rintro en w6 ⟨v6, rfl, R6, T6⟩
      obtain ⟨a6, q6, c6, hv6, hq6⟩ : ∃ a q c, v6 = .slice a q c ∧ q = Rc.1.length := by
        obtain ⟨a, cc, ee⟩ := R6.shapeL
        exact ⟨a, _, cc, ee, List.length_map ..⟩
      subst hv6
      have hb6 : StrRow w6 B (.slice a6 q6 c6) (Rc.1.map ofBs) := ownsRow_base R6 (by have := HT5.out.size; omega)
      have hq6b : q6 ≤ 137438953472 := by have := lens_le Rc.1; have := HQ1.out; omega
      have hq6I : (q6 : Int) ≤ 137438953472 := by omega
      have HR6 := Lib.hid hb6
      have HQ6 := Lib.hid hq6
      have HW6 := Lib.hid (HW5.out.quiet T6)
      have HT6 := Lib.hid (HT5.out.trans T6 (by simp))
      have q3I : (Rc.2 : Int) ≤ (txt.size : Int) := by omega
      have q2I : (txt.size : Int) ≤ 1099511627776 := by omega
      clear R6 T6 hb6 hq6 HRS HRD HRA HTA HWA HREQ
      obtain ⟨ct, hct⟩ : ∃ ct, ct = LM.cutAt c.2 Rc.2 txt.size := ⟨_, rfl⟩
      have HFX2 := Lib.hid (fun (R : Int × DM.D) (hR : R = LM.seq ct (fun d => DM.sync d LM.walN)) => HFX.out R (by rw [hR, hct]) (by first | trivial | rfl))
      by_cases hcut : Rc.2 = txt.size
      case' pos =>
        have hcz : ct = (0, c.2) := by rw [hct]; unfold LM.cutAt; rw [if_pos hcut]
        have HC0 := Lib.hid (show ct.1 = 0 by rw [hcz])
        obtain ⟨wx, hwx⟩ : ∃ wx, wx = w6 := ⟨_, rfl⟩
        obtain ⟨dvx, hdvx⟩ : ∃ z, z = dv3 := ⟨_, rfl⟩
        obtain ⟨kx, hkx⟩ : ∃ z, z = k := ⟨_, rfl⟩
        have HKX := Lib.hid (show kx ≤ k + 2 by omega)
        have HWX := Lib.hid (show RWal wx B r e dvx (.slice none 0 0) kx (LM.start ct.2 []) by rw [hwx, hdvx, hkx, hcz]; exact HW6.out)
        have HTX := Lib.hid (show Touch [e] w6 wx by rw [hwx]; exact Touch.refl _ _)
        have hlt : ¬ (Rc.2 : Int) < (txt.size : Int) := by omega
        clear hct hcz hkx hdvx
        rw [← hwx]
        clear hwx
        go_wp2_with fail
      case' neg =>
        have hcz : ct = DM.cut c.2 LM.walN (Rc.2 : Int) := by rw [hct]; unfold LM.cutAt; rw [if_neg hcut]
        have hcc := rcut_any w6 B e k dv3 c.2 HW6.out.disk (by have := HK.out; omega) (by have := HT6.out.size; omega) walS (by decide) (Rc.2 : Int)
        rw [nm_wal, ← hcz] at hcc
        have HCC := Lib.hid hcc
        have hlt : (Rc.2 : Int) < (txt.size : Int) := by omega
        clear hct hcz hcc hcut
        go_wp2_with fail
        refine HCC.out.mono ?_
        rintro en wx ⟨rfl, dvx, hdx, tx⟩
        obtain ⟨kx, hkx⟩ : ∃ z, z = k + 2 := ⟨_, rfl⟩
        rw [← hkx] at hdx
        have HKX := Lib.hid (show kx ≤ k + 2 by omega)
        have HWX := Lib.hid (show RWal wx B r e dvx (.slice none 0 0) kx (LM.start ct.2 []) from HW6.out.turn hdx tx)
        have HTX := Lib.hid tx
        obtain ⟨rv, hrv⟩ : ∃ rv, rv = ct.1 := ⟨_, rfl⟩
        rw [← hrv]
        have HRV := Lib.hid hrv
        clear hdx tx hrv hkx
        by_cases hz : rv = 0
        case' neg =>
          have hz' : (rv == 0) = false := by simpa using hz
          have hzn : (rv != 0) = true := by simpa using hz
          have hc1 : ct.1 ≠ 0 := fun h => hz (by rw [HRV.out, h])
          have hend := HBAD.out wx dvx kx ct (by have := HK.out; have := HKX.out; omega) (by rw [HFX2.out ct (by simp only [LM.seq, if_neg hc1]), if_neg hc1]) hc1 HWX.out.disk (HT6.out.trans HTX.out (fun k hk => .inl hk))
          rw [← HRV.out] at hend
          have HEND := Lib.hid hend
          clear hz hc1 hend
          go_wp2_with fail
          go_ret2
          exact HEND.out
        have HC0 := Lib.hid (show ct.1 = 0 by rw [← HRV.out, hz])
        subst hz
        clear HRV HCC
        go_wp2_with fail
      all_goals
        have hsy := rsync_any wx B e kx dvx ct.2 HWX.out.disk (by have := HK.out; have := HKX.out; omega) (by have := HT6.out.size; have := HTX.out.size; omega) walS (by decide)
        rw [nm_wal] at hsy
        obtain ⟨s1, hs1⟩ : ∃ s1, s1 = DM.sync ct.2 LM.walN := ⟨_, rfl⟩
        rw [← hs1] at hsy
        have HSY := Lib.hid hsy
        have HFZ := Lib.hid (show LM.opened d = if s1.1 = 0 then (s1, Rc.1) else (s1, []) from HFX2.out s1 (by simp only [LM.seq, if_pos HC0.out]; exact hs1))
        clear hsy hs1 HFX2 HFX HFY
        refine HSY.out.mono ?_
        rintro en w8 ⟨rfl, dv8, hd8, t8⟩
        have hw8 : RWal w8 B r e dv8 (.slice none 0 0) (kx + 2) (LM.start s1.2 []) := HWX.out.turn hd8 t8
        have HW8 := Lib.hid hw8
        have HT68 := Lib.hid (HTX.out.trans t8 (fun k hk => .inl hk))
        obtain ⟨rs, hrs⟩ : ∃ rs, rs = s1.1 := ⟨_, rfl⟩
        rw [← hrs]
        have HRS := Lib.hid hrs
        have y1 : w8.cell? ⟨r, 1, none⟩ = some (.slice none 0 0) := hw8.blk.cell 1
        have y2 : w8.cell? ⟨r, 2, none⟩ = some (.int .i64 0) := hw8.blk.cell 2
        have z1 := hw8.blk.frozen 1
        have z2 := hw8.blk.frozen 2
        clear hw8 hd8 t8 hrs HSY
        by_cases hz : rs = 0
        case' neg =>
          have hz' : (rs == 0) = false := by simpa using hz
          have hzn : (rs != 0) = true := by simpa using hz
          have hc1 : s1.1 ≠ 0 := fun h => hz (by rw [HRS.out, h])
          have hend := HBAD.out w8 dv8 (kx + 2) s1 (by have := HK.out; have := HKX.out; omega) (by rw [HFZ.out, if_neg hc1]) hc1 HW8.out.disk (HT6.out.trans HT68.out (fun k hk => .inl hk))
          rw [← HRS.out] at hend
          have HEND := Lib.hid hend
          clear hz hc1 hend
          go_wp2_with fail
          go_ret2
          exact HEND.out
        have hc1 : s1.1 = 0 := by rw [← HRS.out, hz]
        subst hz
        have hr8 : StrRow w8 B (.slice a6 q6 c6) (Rc.1.map ofBs) := row_far HR6.out HT68.out (fun k hk hm => by
          obtain ⟨cs, hb⟩ := row_blk HR6.out k hk
          obtain ⟨cs', hb'⟩ := HW6.out.disk.dblk
          exact hb.ne_type hb' (by decide) (by simpa using hm))
        obtain ⟨hwB, tB⟩ := HW8.out.newRow hr8 (Touch.refl _ _) HQ1.out
        obtain ⟨hwC, tC⟩ := hwB.setFirm q6 hq6b
        have hend := HGOOD.out _ r dv8 (.slice a6 q6 c6) (kx + 2) s1 Rc.1 (by have := HK.out; have := HKX.out; omega) (by rw [HFZ.out, if_pos hc1]) hc1
          (by show RWal _ _ _ _ _ _ _ ⟨s1.2, Rc.1, Rc.1.length, false⟩; rw [← HQ6.out]; exact hwC)
          (((HT6.out.trans HT68.out (fun k hk => .inl hk)).trans tB (fun k hk => by
            simp [Value.ownBlock] at hk
            rcases hk with rfl | rfl
            · exact .inr HRL.out
            · exact .inl (by simp))).trans tC (fun k hk => by
            simp at hk
            subst hk
            exact .inr HRL.out)) HRL.out
        have HEND := Lib.hid hend
        clear hend hwB tB hwC tC hr8 hc1
        go_wp2_with fail
        go_ret2
        exact HEND.out
end Go.Proofs.YtmglkhnojimnlaaGreat

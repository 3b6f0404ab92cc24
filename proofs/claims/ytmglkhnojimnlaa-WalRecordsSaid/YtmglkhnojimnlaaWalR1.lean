/- The document's sums and records: fingerpostref02.Of, fingerpostref10.Record. -/
import Derived.Test.YtmglkhnojimnlaaWal1
import Derived.Test.YtmglkhnojimnlaaWalR1M
namespace Go.Proofs.Ytmglkhnojimnlaa
open Go.RowKit Go.Maps

theorem rstep02 (c : Nat) (hc : c < 4294967296) (w : World) : Calls Try.prog 73 #[.int .u32 (c : Int)] w fun e w' => e = .returned (.int .u32 (WM.st c : Int)) ∧ w' = w := by
  have hd : (c : Int) / 2 = ((c >>> 1 : Nat) : Int) := by rw [Nat.shiftRight_eq_div_pow]; omega
  have hl : c >>> 1 < 4294967296 := by rw [Nat.shiftRight_eq_div_pow]; omega
  have hcI : (c : Int) < 4294967296 := by omega
  by_cases hm : c % 2 = 1
  · have hs : WM.st c = (c >>> 1) ^^^ 3988292384 := by unfold WM.st; rw [if_pos hm]
    have h5 : bits .xor .u32 ((c >>> 1 : Nat) : Int) 3988292384 = ((((c >>> 1) ^^^ 3988292384 : Nat)) : Int) := bx_u32 (c >>> 1) 3988292384 hl (by decide)
    have hm1 : (c : Int) % 2 = 1 := by omega
    rw [hs, ← h5, ← hd]
    clear hs hm hl h5 hd
    go_enter Try.func73, Try.ntmps73
    go_wp2
    go_ret
    exact ⟨rfl, rfl⟩
  · have hs : WM.st c = c >>> 1 := by unfold WM.st; rw [if_neg hm, Nat.xor_zero]
    have hm1 : (c : Int) % 2 = 0 := by omega
    rw [hs, ← hd]
    clear hs hm hl hd
    go_enter Try.func73, Try.ntmps73
    go_wp2
    go_ret
    exact ⟨rfl, rfl⟩
set_option maxRecDepth 10000 in
set_option maxHeartbeats 800000 in
theorem rbehind02 (w : World) (c0 : Nat) (hc0 : c0 < 4294967296) (s : ByteArray) (hs : s.size ≤ maxLen) :
    Calls Try.prog 56 #[.int .u32 (c0 : Int), .string s] w fun e w' => e = .returned (.int .u32 (WM.run c0 (bs s) : Int)) ∧ w' = w := by
  unfold maxLen at hs
  have hsI : (s.size : Int) ≤ 9223372036854775807 := by omega
  have HC := Lib.hid hc0
  clear hc0 hs
  go_enter Try.func56, Try.ntmps56
  go_wp2_with fail
  go_loop [0, 5] (fun u v => ∃ i : Nat, i ≤ s.size ∧ u = .int .u32 (WM.run c0 ((bs s).take i) : Int) ∧ v = .int .i64 i) (fun _ v => s.size - (intOf v).toNat)
  case atStart => exact ⟨0, Nat.zero_le _, by simp [WM.run], rfl⟩
  case round =>
    obtain ⟨i, hi, rfl, rfl⟩ := hrel
    by_cases hil : i < s.size
    · have hil2 : i < (bs s).length := by rw [bs_length]; exact hil
      have hstep : WM.run c0 ((bs s).take (i + 1)) = WM.upd (WM.run c0 ((bs s).take i)) (bs s)[i] := by
        rw [List.take_succ_eq_append_getElem hil2, WM.run_append]
        rfl
      have hcl := WM.run_lt ((bs s).take i) c0 HC.out
      obtain ⟨c, hc⟩ : ∃ c, c = WM.run c0 ((bs s).take i) := ⟨_, rfl⟩
      rw [← hc] at hstep hcl ⊢
      obtain ⟨sb, hsb⟩ : ∃ sb : UInt8, s[i]'hil = sb := ⟨_, rfl⟩
      have hsb2 : (bs s)[i] = sb := by
        have h9 : (bs s)[i]? = some (s[i]'hil) := by
          show s.data.toList[i]? = _
          rw [Array.getElem?_toList, Array.getElem?_eq_getElem hil]
          rfl
        rw [List.getElem?_eq_getElem hil2, hsb] at h9
        exact Option.some.inj h9
      rw [hsb2, ← WM.upd_eq] at hstep
      have hbl := sb.toNat_lt
      have hx := bx_u32 c sb.toNat hcl (by omega)
      have hxl : c ^^^ sb.toNat < 4294967296 := WM.xor_lt hcl (by omega)
      obtain ⟨x, hxx⟩ : ∃ x, x = c ^^^ sb.toNat := ⟨_, rfl⟩
      rw [← hxx] at hx hxl hstep
      have HST := Lib.hid hstep
      have HXL := Lib.hid hxl
      clear hstep hc hsb2 hxx hil2 hxl hcl
      go_wp2_with fail
      go_loop [0, 6] (fun u v => ∃ k : Nat, k ≤ 8 ∧ u = .int .u32 (stN k x : Int) ∧ v = .int .i64 k) (fun _ v => 8 - (intOf v).toNat)
      case atStart => exact ⟨0, by omega, rfl, rfl⟩
      case round =>
        obtain ⟨k, hk, rfl, rfl⟩ := hrel
        by_cases hlt : k < 8
        · go_wp2_with fail
          refine (rstep02 (stN k x) (stN_lt k x HXL.out) _).mono ?_
          rintro e w' ⟨rfl, rfl⟩
          go_wp2_with fail
          go_round
          case rel => exact ⟨k + 1, by omega, rfl, by go_num⟩
          case measure => simp [intOf]; omega
        · obtain rfl : k = 8 := by omega
          rw [stN_8, ← HST.out]
          go_wp2_with fail
          go_round
          case rel => exact ⟨i + 1, by omega, rfl, by go_num⟩
          case measure => simp [intOf]; omega
    · have hall : (bs s).take i = bs s := List.take_of_length_le (by rw [bs_length]; omega)
      rw [hall]
      go_wp2_with fail
      go_ret
      exact ⟨rfl, rfl⟩
theorem rof02 (w : World) (s : ByteArray) (hs : s.size ≤ maxLen) : Calls Try.prog 33 #[.string s] w fun e w' => e = .returned (.int .u32 (WM.crc (bs s) : Int)) ∧ w' = w := by
  have hb := rbehind02 w 4294967295 (by decide) s hs
  have hlt := WM.run_lt (bs s) 4294967295 (by decide)
  obtain ⟨c, hc⟩ : ∃ c, c = WM.run 4294967295 (bs s) := ⟨_, rfl⟩
  have hcrc : WM.crc (bs s) = 4294967295 ^^^ c := by rw [hc]; rfl
  rw [← hc] at hb hlt
  have HB := Lib.hid hb
  have hx : bits .xor .u32 4294967295 (c : Int) = ((4294967295 ^^^ c : Nat) : Int) := bx_u32 4294967295 c (by decide) hlt
  rw [hcrc]
  have HL := Lib.hid hlt
  clear hb hc hcrc hlt hs
  go_enter Try.func33, Try.ntmps33
  go_wp2_with fail
  refine HB.out.mono ?_
  rintro e w1 ⟨rfl, rfl⟩
  go_wp2_with fail
  go_ret
  exact ⟨congrArg (fun z => Ending.returned (Value.int .u32 z)) (show bits .xor .u32 IntKind.u32.max (c : Int) = _ from hx), rfl⟩
set_option maxRecDepth 10000 in
theorem rfour_any (w : World) (n : Nat) (hn : n < 4294967296) : Calls Try.prog 32 #[.int .u32 (n : Int)] w fun e w' => e = .returned (.string (ofBs (WM.be4 n))) ∧ Touch [] w w' := by
  have e0 : (n : Int) / 16777216 = ((UInt8.ofNat (n / 16777216)).toNat : Int) := by rw [byte_of]; omega
  have e1 : ((n : Int) / 65536) % 256 = ((UInt8.ofNat (n / 65536)).toNat : Int) := by rw [byte_of]; omega
  have e2 : ((n : Int) / 256) % 256 = ((UInt8.ofNat (n / 256)).toNat : Int) := by rw [byte_of]; omega
  have e3 : (n : Int) % 256 = ((UInt8.ofNat n).toNat : Int) := by rw [byte_of]
  have hcv : (convert 31 9 (.slice (some ⟨w.heap.size, 0, none⟩) 4 4)).run Try.prog (w.alloc (.cells #[.int .u8 ((UInt8.ofNat (n / 16777216)).toNat : Int), .int .u8 ((UInt8.ofNat (n / 65536)).toNat : Int), .int .u8 ((UInt8.ofNat (n / 256)).toNat : Int), .int .u8 ((UInt8.ofNat n).toNat : Int)] 5)) =
      .ok (.string (ofBs (WM.be4 n))) (w.alloc (.cells #[.int .u8 ((UInt8.ofNat (n / 16777216)).toNat : Int), .int .u8 ((UInt8.ofNat (n / 65536)).toNat : Int), .int .u8 ((UInt8.ofNat (n / 256)).toNat : Int), .int .u8 ((UInt8.ofNat n).toNat : Int)] 5)) :=
    run_convert_bytes_back (P := Try.prog) _ 31 9 5 ⟨w.heap.size, 0, none⟩ 4 (WM.be4 n) Try.underlying31 Try.underlying5 Try.underlying9 (fun j hj => by
      have hb := Blk.new w 5 #[.int .u8 ((UInt8.ofNat (n / 16777216)).toNat : Int), .int .u8 ((UInt8.ofNat (n / 65536)).toNat : Int), .int .u8 ((UInt8.ofNat (n / 256)).toNat : Int), .int .u8 ((UInt8.ofNat n).toNat : Int)]
      rw [add_none, Nat.zero_add, hb.cell j]
      have hj4 : j < 4 := hj
      match j, hj4 with
      | 0, _ => rfl
      | 1, _ => rfl
      | 2, _ => rfl
      | 3, _ => rfl)
  have hnI : (n : Int) < 4294967296 := by omega
  generalize UInt8.ofNat (n / 16777216) = b0 at e0 hcv
  generalize UInt8.ofNat (n / 65536) = b1 at e1 hcv
  generalize UInt8.ofNat (n / 256) = b2 at e2 hcv
  generalize UInt8.ofNat n = b3 at e3 hcv
  generalize ofBs (WM.be4 n) = st at hcv ⊢
  go_enter Try.func32, Try.ntmps32
  go_wp2
  go_ret
  exact ⟨rfl, (Touch.refl [] w).alloc _⟩

set_option maxRecDepth 10000 in
theorem rrecord_any (w : World) (s : ByteArray) (hs : s.size ≤ 1099511627776) : Calls Try.prog 12 #[.string s] w fun e w' =>
    e = .returned (.tuple #[.string (if s.size ≤ 60000 then recS s else ⟨#[]⟩), .int .i64 (if s.size ≤ 60000 then 0 else 11)]) ∧ Touch [] w w' := by
  by_cases hb : s.size ≤ 60000
  · rw [if_pos hb, if_pos hb]
    have hbI : ¬ (60000 : Int) < (s.size : Int) := by omega
    have hbI2 : (s.size : Int) ≤ 60000 := by omega
    have hl1 := fun w => rfour_any w s.size (by omega)
    have hl2 := fun w => rfour_any w (WM.crc (WM.be4 s.size ++ bs s)) (WM.crc_lt _)
    have hof := fun w => rof02 w (ofBs (WM.be4 s.size) ++ s) (by rw [ByteArray.size_append, ofBs_size, WM.be4_length]; unfold maxLen; omega)
    rw [bs_append, bs_ofBs] at hof
    have hz1 : (ofBs (WM.be4 s.size)).size = 4 := by rw [ofBs_size]; rfl
    have hz2 : (ofBs (WM.be4 (WM.crc (WM.be4 s.size ++ bs s)))).size = 4 := by rw [ofBs_size]; rfl
    have hre : recS s = ofBs (WM.be4 s.size) ++ ofBs (WM.be4 (WM.crc (WM.be4 s.size ++ bs s))) ++ s := rfl
    have HRE := Lib.hid hre
    obtain ⟨x, hx⟩ : ∃ x, x = ofBs (WM.be4 s.size) := ⟨_, rfl⟩
    obtain ⟨y, hy⟩ : ∃ y, y = ofBs (WM.be4 (WM.crc (WM.be4 s.size ++ bs s))) := ⟨_, rfl⟩
    rw [← hx] at hl1 hof hz1 HRE
    rw [← hy] at hl2 hz2 HRE
    obtain ⟨c, hc⟩ : ∃ c, c = WM.crc (WM.be4 s.size ++ bs s) := ⟨_, rfl⟩
    rw [← hc] at hl2 hof
    have hz3 : (x ++ y).size = 8 := by rw [ByteArray.size_append, hz1, hz2]
    have hz4 : (x ++ s).size = 4 + s.size := by rw [ByteArray.size_append, hz1]
    have L1 := Lib.hid hl1
    have L2 := Lib.hid hl2
    have HOF := Lib.hid hof
    clear hl1 hl2 hof hx hy hc hre
    go_enter Try.func12, Try.ntmps12
    go_wp2_with fail
    refine (L1.out _).mono ?_
    rintro e w1 ⟨rfl, T1⟩
    go_wp2_with fail
    refine (HOF.out _).mono ?_
    rintro e w1 ⟨rfl, rfl⟩
    go_wp2_with fail
    refine (L2.out _).mono ?_
    rintro e w3 ⟨rfl, T3⟩
    go_wp2_with fail
    go_ret2
    exact ⟨by rw [HRE.out]; rfl, T1.trans T3 (by simp)⟩
  · rw [if_neg hb, if_neg hb]
    have hbI : (60000 : Int) < (s.size : Int) := by omega
    go_enter Try.func12, Try.ntmps12
    go_wp2
    go_ret2
    exact ⟨rfl, Touch.refl _ _⟩
end Go.Proofs.Ytmglkhnojimnlaa

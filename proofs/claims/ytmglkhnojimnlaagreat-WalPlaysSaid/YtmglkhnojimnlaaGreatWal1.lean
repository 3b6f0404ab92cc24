/- Package wal: long, Record. -/
import Derived.Test.YtmglkhnojimnlaaGreatCrc2
import Derived.IntWalk
namespace Go.Proofs.YtmglkhnojimnlaaGreat
open Go.RowKit Go.Maps

/-- a text of bytes -/
def ofBs (l : WM.Bs) : ByteArray := ⟨l.toArray⟩
theorem bs_ofBs (l : WM.Bs) : bs (ofBs l) = l := by simp [bs, ofBs]
theorem ofBs_bs (s : ByteArray) : ofBs (bs s) = s := by simp [bs, ofBs]
theorem ofBs_size (l : WM.Bs) : (ofBs l).size = l.length := by simp [ofBs, ByteArray.size]
theorem bs_append (a b : ByteArray) : bs (a ++ b) = bs a ++ bs b := by simp [bs, ByteArray.data_append]
theorem bs_inj {a b : ByteArray} (h : bs a = bs b) : a = b := by rw [← ofBs_bs a, h, ofBs_bs]
theorem byte_of (n : Nat) : ((UInt8.ofNat n).toNat : Int) = (n : Int) % 256 := by rw [UInt8.toNat_ofNat']; omega
set_option maxRecDepth 10000 in
theorem long_any (w : World) (n : Nat) (hn : n < 4294967296) : Calls Tryz.prog 36 #[.int .u32 (n : Int)] w fun e w' => e = .returned (.string (ofBs (WM.be4 n))) ∧ Touch [] w w' := by
  have e0 : (n : Int) / 16777216 = ((UInt8.ofNat (n / 16777216)).toNat : Int) := by rw [byte_of]; omega
  have e1 : ((n : Int) / 65536) % 256 = ((UInt8.ofNat (n / 65536)).toNat : Int) := by rw [byte_of]; omega
  have e2 : ((n : Int) / 256) % 256 = ((UInt8.ofNat (n / 256)).toNat : Int) := by rw [byte_of]; omega
  have e3 : (n : Int) % 256 = ((UInt8.ofNat n).toNat : Int) := by rw [byte_of]
  have hcv : (convert 85 9 (.slice (some ⟨w.heap.size, 0, none⟩) 4 4)).run Tryz.prog (w.alloc (.cells #[.int .u8 ((UInt8.ofNat (n / 16777216)).toNat : Int), .int .u8 ((UInt8.ofNat (n / 65536)).toNat : Int), .int .u8 ((UInt8.ofNat (n / 256)).toNat : Int), .int .u8 ((UInt8.ofNat n).toNat : Int)] 5)) =
      .ok (.string (ofBs (WM.be4 n))) (w.alloc (.cells #[.int .u8 ((UInt8.ofNat (n / 16777216)).toNat : Int), .int .u8 ((UInt8.ofNat (n / 65536)).toNat : Int), .int .u8 ((UInt8.ofNat (n / 256)).toNat : Int), .int .u8 ((UInt8.ofNat n).toNat : Int)] 5)) :=
    run_convert_bytes_back (P := Tryz.prog) _ 85 9 5 ⟨w.heap.size, 0, none⟩ 4 (WM.be4 n) Tryz.underlying85 Tryz.underlying5 Tryz.underlying9 (fun j hj => by
      have hb := Blk.new w 5 #[.int .u8 ((UInt8.ofNat (n / 16777216)).toNat : Int), .int .u8 ((UInt8.ofNat (n / 65536)).toNat : Int), .int .u8 ((UInt8.ofNat (n / 256)).toNat : Int), .int .u8 ((UInt8.ofNat n).toNat : Int)]
      rw [add_none, Nat.zero_add, hb.cell j]
      have hj4 : j < 4 := hj
      match j, hj4 with
      | 0, _ => rfl
      | 1, _ => rfl
      | 2, _ => rfl
      | 3, _ => rfl)
  have hnI : (n : Int) < 4294967296 := by omega
  generalize UInt8.ofNat (n / 16777216) = b0 at e0 hcv
  generalize UInt8.ofNat (n / 65536) = b1 at e1 hcv
  generalize UInt8.ofNat (n / 256) = b2 at e2 hcv
  generalize UInt8.ofNat n = b3 at e3 hcv
  generalize ofBs (WM.be4 n) = st at hcv ⊢
  go_enter Tryz.func36, Tryz.ntmps36
  go_wp2
  go_ret
  exact ⟨rfl, (Touch.refl [] w).alloc _⟩

/-- a record's text -/
def recS (s : ByteArray) : ByteArray := ofBs (WM.be4 s.size) ++ ofBs (WM.be4 (WM.crc (WM.be4 s.size ++ bs s))) ++ s
theorem bs_recS (s : ByteArray) : bs (recS s) = WM.rec_ (bs s) := by
  unfold recS WM.rec_
  rw [bs_append, bs_append, bs_ofBs, bs_ofBs, bs_length, List.append_assoc]
theorem recS_size (s : ByteArray) : (recS s).size = 8 + s.size := by
  rw [← bs_length, bs_recS, WM.rec_length, bs_length]
set_option maxRecDepth 10000 in
theorem record_any (w : World) (s : ByteArray) (hs : s.size ≤ maxLen) : Calls Tryz.prog 17 #[.string s] w fun e w' =>
    e = .returned (.tuple #[.string (if s.size ≤ 60000 then recS s else ⟨#[]⟩), .int .i64 (if s.size ≤ 60000 then 0 else 11)]) ∧ Touch [] w w' := by
  unfold maxLen at hs
  by_cases hb : s.size ≤ 60000
  · rw [if_pos hb, if_pos hb]
    have hbI : ¬ (60000 : Int) < (s.size : Int) := by omega
    have hbI2 : (s.size : Int) ≤ 60000 := by omega
    have hl1 := fun w => long_any w s.size (by omega)
    have hl2 := fun w => long_any w (WM.crc (WM.be4 s.size ++ bs s)) (WM.crc_lt _)
    have hof : ∀ w g, w.cell? ⟨g, 0, none⟩ = some (.string (ofBs (WM.be4 s.size))) → w.cell? ⟨g, 1, none⟩ = some (.string s) → Calls Tryz.prog 37 #[.slice (some ⟨g, 0, none⟩) 2 2] w fun e w' => e = .returned (.int .u32 (WM.crc (WM.be4 s.size ++ bs s) : Int)) ∧ Touch [] w w' := fun w g h0 h1 => by
      have := of_any w g 0 2 [ofBs (WM.be4 s.size), s] (fun i hi => by
        match i, hi with
        | 0, _ => exact h0
        | 1, _ => exact h1) (by simp) (by unfold maxLen; omega) (fun x hx => by
        simp only [List.mem_cons, List.not_mem_nil, or_false] at hx
        rcases hx with rfl | rfl
        · rw [ofBs_size, WM.be4_length]; unfold maxLen; omega
        · unfold maxLen; omega)
      simpa [bs_ofBs] using this
    have hz1 : (ofBs (WM.be4 s.size)).size = 4 := by rw [ofBs_size]; rfl
    have hz2 : (ofBs (WM.be4 (WM.crc (WM.be4 s.size ++ bs s)))).size = 4 := by rw [ofBs_size]; rfl
    have hz3 : (ofBs (WM.be4 s.size) ++ ofBs (WM.be4 (WM.crc (WM.be4 s.size ++ bs s)))).size = 8 := by rw [ByteArray.size_append, hz1, hz2]
    have hre : recS s = ofBs (WM.be4 s.size) ++ ofBs (WM.be4 (WM.crc (WM.be4 s.size ++ bs s))) ++ s := rfl
    have HRE := Lib.hid hre
    obtain ⟨x, hx⟩ : ∃ x, x = ofBs (WM.be4 s.size) := ⟨_, rfl⟩
    obtain ⟨y, hy⟩ : ∃ y, y = ofBs (WM.be4 (WM.crc (WM.be4 s.size ++ bs s))) := ⟨_, rfl⟩
    rw [← hx] at hl1 hof hz1 hz3 HRE
    rw [← hy] at hl2 hz2 hz3 HRE
    obtain ⟨c, hc⟩ : ∃ c, c = WM.crc (WM.be4 s.size ++ bs s) := ⟨_, rfl⟩
    rw [← hc] at hl2 hof
    have L1 := Lib.hid hl1
    have L2 := Lib.hid hl2
    have HOF := Lib.hid hof
    clear hl1 hl2 hof hx hy hc hre
    go_enter Tryz.func17, Tryz.ntmps17
    go_wp2_with fail
    refine (L1.out _).mono ?_
    rintro e w1 ⟨rfl, T1⟩
    go_wp2_with fail
    have hb2 := Blk.new w1 9 #[.string x, .string s]
    refine (HOF.out _ _ (hb2.cell 0) (hb2.cell 1)).mono ?_
    rintro e w2 ⟨rfl, T2⟩
    go_wp2_with fail
    refine (L2.out _).mono ?_
    rintro e w3 ⟨rfl, T3⟩
    go_wp2_with fail
    go_ret2
    exact ⟨by rw [HRE.out]; rfl, ((T1.alloc _).trans T2 (by simp)).trans T3 (by simp)⟩
  · rw [if_neg hb, if_neg hb]
    have hbI : (60000 : Int) < (s.size : Int) := by omega
    go_enter Tryz.func17, Tryz.ntmps17
    go_wp2
    go_ret2
    exact ⟨rfl, Touch.refl _ _⟩
end Go.Proofs.YtmglkhnojimnlaaGreat

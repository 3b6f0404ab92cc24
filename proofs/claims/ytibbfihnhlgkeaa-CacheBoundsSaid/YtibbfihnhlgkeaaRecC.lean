/- Package record: cut's closure. -/
import Derived.Test.YtibbfihnhlgkeaaRecS
import Derived.Deep.AppendLies
import Derived.Deep.RegionLaw
namespace Go.Proofs.Ytibbfihnhlgkeaa
open Go.RowKit Go.Maps Go.Shelf
open NM (Bs bs ofBs)

theorem lt_sub_of {n x i a b : Nat} (h1 : a = x) (h2 : b = i) (h : n - x < n - i) : n - a < n - b := by rw [h1, h2]; exact h
set_option maxRecDepth 10000 in
set_option maxHeartbeats 800000 in
theorem take_any (w : World) (Br Bx B : Nat) (s ah be : ByteArray) (v : Value) (pre : List ByteArray) (hs : s.size ≤ 1099511627776) (hp : pre.length ≤ 1000) (hB : B ≤ w.heap.size)
    (hr : Blk w Br 9 #[.string s]) (hx : Blk w Bx 117 #[.string ah, .string be, v]) (hv : TRow w B v pre) (hlow : Br < B ∧ Bx < B) :
    Calls Try.prog 82 #[.pointer (some ⟨Br, 0, none⟩), .pointer (some ⟨Bx, 0, none⟩)] w fun e w' => ∃ x more ok, e = .returned (.bool ok) ∧ FirstIs s x more ok ∧
      ((ok = false ∧ Touch [] w w') ∨ (ok = true ∧ Blk w' Br 9 #[.string more] ∧ (∃ v', Blk w' Bx 117 #[.string ah, .string be, v'] ∧ TRow w' B v' (pre ++ [x])) ∧ Touch (Br :: Bx :: v.ownBlock.toList) w w')) := by
  obtain ⟨i0, hi, hz0, hz1, hz2⟩ := info_parts infoTxt
  have HI := Lib.hid (And.intro hi (And.intro hz0 (And.intro hz1 hz2)))
  have hbx := hr.ne_type hx (by decide)
  have k0 : w.cell? ⟨Br, 0, none⟩ = some (.string s) := hr.cell 0
  have HBR := Lib.hid hr
  have HBX := Lib.hid hx
  have HV := Lib.hid hv
  clear hr hx hv hi hz0 hz1 hz2
  go_enter Try.func82, Try.ntmps82
  go_wp2_with fail
  go_loopw [3] (fun v wr => wr = w ∧ ∃ i : Nat, v = .int .i64 (i : Int) ∧ i ≤ s.size + 255 ∧ NM.skip (bs s) = NM.skip ((bs s).drop i)) (fun v _ => s.size - (intOf v).toNat)
  case atStart => exact ⟨rfl, 0, rfl, by omega, by simp⟩
  case round =>
    obtain ⟨rfl, i, rfl, hi, hk⟩ := hrel
    have HK := Lib.hid hk
    clear hk
    by_cases hlt : i < s.size
    · have hltI : (i : Int) < (s.size : Int) := by omega
      have hdr := NM.bs_drop s i hlt
      obtain ⟨c, hc⟩ : ∃ c, s[i] = c := ⟨_, rfl⟩
      rw [hc] at hdr
      have hlI : (i : Int) + 1 ≤ (s.size : Int) := by omega
      have hlt' : i + 1 ≤ s.size := hlt
      have hw2 : wrap64 ((i : Int) + 1) = (i : Int) + 1 := IntWalk.wrap64_in _ (by omega)
      by_cases h0 : c = 0
      · subst h0
        have hz : s[i].toNat = 0 := by rw [hc]; rfl
        have hf := first_some hlt (by rw [HK.out, hdr, NM.skip_zero])
        rw [← show bs (s.extract 0 (i + 1)) = (bs s).take (i + 1) by rw [NM.bs_extract]; simp, ← show bs (s.extract (i + 1) s.size) = (bs s).drop (i + 1) by rw [NM.bs_extract, List.take_of_length_le (by rw [List.length_drop, NM.bs_length]; omega)]] at hf
        have HC := Lib.hid (fun W => ncheck_any W (s.extract 0 (i + 1)) (by rw [ByteArray.size_extract]; omega))
        obtain ⟨k, hk⟩ : ∃ k, k = NM.check (bs (s.extract 0 (i + 1))) := ⟨_, rfl⟩
        rw [← hk] at hf HC
        have HF := Lib.hid hf
        have HZ := Lib.hid (show (s.extract (i + 1) s.size).size ≤ s.size by rw [ByteArray.size_extract]; omega)
        have hgeN : ¬ s.size ≤ i := by omega
        have HX3 := Lib.hid (show (0 : Int) ≤ (i : Int) + 1 by clear hw2; omega)
        have HX2 := Lib.hid (show IntKind.i64.wrap ((i : Int) + 1) = (i : Int) + 1 from IntWalk.i64_in _ (by clear hw2; omega))
        clear hf hk hdr hc
        go_wp2_with fail
        refine (HC.out _).mono ?_
        rintro e w1 ⟨rfl, T⟩
        by_cases h1 : k = 0
        · subst h1
          as_aux_lemma =>
          have k1 : w1.cell? ⟨Br, 0, none⟩ = some (.string s) := (T.blk HBR.out (by simp)).cell 0
          have k2 : w1.cell? ⟨Bx, 2, none⟩ = some v := (T.blk HBX.out (by simp)).cell 2
          have hrow : w1.ownsRow B 9 1 v pre.length (pre.map .string) := trow_touch HV.out T (by simp)
          have HROW := Lib.hid hrow
          have HT := Lib.hid T
          have HBD := Lib.hid (And.intro hB (And.intro hp hlow))
          have hBx1 := (Lib.hid (T.blk HBX.out (by simp)))
          have hBr1 := (Lib.hid (T.blk HBR.out (by simp)))
          have k3 : w1.frozen? ⟨Bx, 2, none⟩ = false := (T.blk HBX.out (by simp)).frozen 2
          clear hrow T hB hp hlow hs hi hgeN hz
          clear hltI k0
          have hw2' := Lib.hid hw2
          clear hw2
          have lr := World.block_lt_of_cell? w1 _ k1
          have lx := World.block_lt_of_cell? w1 _ k2
          have nr : v.ownBlock ≠ some Br := fun e => by have := (HROW.out.lt _ e).1; have := HBD.out.2.2; omega
          have nx : v.ownBlock ≠ some Bx := fun e => by have := (HROW.out.lt _ e).1; have := HBD.out.2.2; omega
          have hm1 : pre.length + 1 ≤ maxLen := by unfold maxLen; have := HBD.out.2.1; omega
          have hm2 : (pre.length + 1) * 16 ≤ 140737488355328 := by have := HBD.out.2.1; omega
          have hm3 : B ≤ w1.heap.size := Nat.le_trans HBD.out.1 HT.out.size
          have NN := Lib.hid (And.intro nr (And.intro nx (And.intro hm1 (And.intro hm2 hm3))))
          have hw2 := hw2'.out
          go_wp2_with fail
          have hx2 := HX2.out
          have hx3 := HX3.out
          clear hw2
          have k4 : ∀ o, ((w1.alloc o).drew).cell? ⟨Bx, 2, none⟩ = some v := fun o => ((hBx1.out.alloc o).drew).cell 2
          have k5 : ∀ o, ((w1.alloc o).drew).cell? ⟨Br, 0, none⟩ = some (.string s) := fun o => ((hBr1.out.alloc o).drew).cell 0
          go_region_law
            ((refine step_append_lies _ (by rfl) _ _ _ (by rfl) B 9 i0 _ 1 16 Try.underlying47 HI.out.1 HI.out.2.1 HI.out.2.2.1 HI.out.2.2.2 rfl (by decide) v pre.length (pre.map .string) (by rfl) ((HROW.out.alloc _).drew)
                ⟨w1.heap.size, 0, none⟩ 1 1 [.string (s.extract 0 (i + 1))] (by rfl) (by rfl) (World.news_of_block (cs := #[.string (s.extract 0 (i + 1))]) (t := 9) (fr := (0, 0)) (heap_alloc_new w1 _)) (by simp [Value.oneCell'])
                (by decide) hm1 hm2 (by simp; exact Nat.le_succ_of_le hm3) (w1.heap.size + 1) (by simp) ?_; intro gg cap w2 hown1 hgrow hat hlt; have u3 : w2.frozen? ⟨Bx, 2, none⟩ = false := (hgrow.frozen_far ⟨Bx, 2, none⟩ (Nat.lt_of_lt_of_le lx (by simp)) (Ne.symm nx)).trans (((hBx1.out.alloc _).drew).frozen 2); have u4 : w2.cell? ⟨Bx, 2, none⟩ = some v := (hgrow.cell_far ⟨Bx, 2, none⟩ (Nat.lt_of_lt_of_le lx (by simp)) (Ne.symm nx)).trans (((hBx1.out.alloc _).drew).cell 2)))
          all_goals
            as_aux_lemma =>
              clear hx2 hx3 k4 k5
              obtain ⟨x, hx⟩ : ∃ x, x = s.extract 0 (i + 1) := ⟨_, rfl⟩
              have T2 : Touch v.ownBlock.toList w1 w2 := (((Touch.refl _ w1).alloc _).drew_).trans (Touch.of_grown hgrow) (fun k hk => .inl hk)
              have hR2 : TRow w2 B (.slice (some ⟨gg, 0, none⟩) (pre.length + 1) cap) (pre ++ [x]) := by
                unfold TRow
                rw [List.map_append, List.length_append, hx]
                exact hown1
              have hR3 : TRow (w2.setCell ⟨Bx, 2, none⟩ (.slice (some ⟨gg, 0, none⟩) (pre.length + 1) cap)) B (.slice (some ⟨gg, 0, none⟩) (pre.length + 1) cap) (pre ++ [x]) :=
                trow_low hR2 ((Touch.refl [Bx] w2).setCell _ _ (.inl (by simp))) (by have := HBD.out.2.2.2; simpa using this)
              have b3 := (T2.blk hBr1.out (by simpa using fun e => nr e)).far (p := ⟨Bx, 2, none⟩) hbx (.slice (some ⟨gg, 0, none⟩) (pre.length + 1) cap)
              have b4 := (T2.blk hBx1.out (by simpa using fun e => nx e)).set_ 2 (.slice (some ⟨gg, 0, none⟩) (pre.length + 1) cap)
              have T3 : Touch (Br :: Bx :: v.ownBlock.toList) wr (w2.setCell ⟨Bx, 2, none⟩ (.slice (some ⟨gg, 0, none⟩) (pre.length + 1) cap)) :=
                (((HT.out.mono (S' := Br :: Bx :: v.ownBlock.toList) (by simp)).trans T2 (fun k hk => .inl (by simp [hk]))).setCell _ _ (.inl (by simp)))
              obtain ⟨w3, hw3⟩ : ∃ w3, w3 = w2.setCell ⟨Bx, 2, none⟩ (.slice (some ⟨gg, 0, none⟩) (pre.length + 1) cap) := ⟨_, rfl⟩
              rw [← hw3] at b3 b4 T3 hR3 ⊢
              clear hw3 hown1 hgrow hat hlt T2 hR2 u3 u4
              have c3 : w3.cell? ⟨Br, 0, none⟩ = some (.string s) := b3.cell 0
              have f3 : w3.frozen? ⟨Br, 0, none⟩ = false := b3.frozen 0
              have B3 := Lib.hid b3
              have B4 := Lib.hid b4
              have HT3 := Lib.hid T3
              have HR3 := Lib.hid hR3
              have HX := Lib.hid hx
              have hw2 := hw2'.out
              clear b3 b4 T3 hR3 hx
              go_wp2_with fail
              go_ret
              refine ⟨x, s.extract (i + 1) s.size, true, rfl, .inl ⟨rfl, by rw [HF.out]; simp, HZ.out⟩, .inr ⟨rfl, B3.out.set_ 0 _, ⟨_, B4.out.far (p := ⟨Br, 0, none⟩) (Ne.symm hbx) _, ?_⟩, HT3.out.setCell _ _ (.inl (by simp))⟩⟩
              exact trow_low HR3.out ((Touch.refl [Br] w3).setCell _ _ (.inl (by simp))) (by have := HBD.out.2.2.1; simpa using this)
        · as_aux_lemma =>
          go_wp2_with fail
          go_ret
          exact ⟨ByteArray.empty, ByteArray.empty, false, rfl, .inr ⟨rfl, by rw [HF.out, if_neg h1]⟩, .inl ⟨rfl, T⟩⟩
      · as_aux_lemma =>
        have hcn : c.toNat ≠ 0 := fun e => h0 (UInt8.toNat_inj.1 e)
        have hcnI : (c.toNat : Int) ≠ 0 := by omega
        have hc255 := c.toNat_lt
        have hk2 : NM.skip (bs s) = NM.skip ((bs s).drop (i + (c.toNat + 1))) := by
          rw [HK.out, hdr, NM.skip_go h0, List.drop_drop, show i + 1 + c.toNat = i + (c.toNat + 1) by clear hw2; omega]
        have hz1 : -9223372036854775808 ≤ (c.toNat : Int) ∧ (c.toNat : Int) ≤ 9223372036854775807 := by clear hw2; omega
        have hz2 : -9223372036854775808 ≤ 1 + (c.toNat : Int) ∧ 1 + (c.toNat : Int) ≤ 9223372036854775807 := by clear hw2; omega
        have hz3 : -9223372036854775808 ≤ (i : Int) + (1 + (c.toNat : Int)) ∧ (i : Int) + (1 + (c.toNat : Int)) ≤ 9223372036854775807 := by clear hw2; omega
        have hr1 : (i : Int) + (1 + (c.toNat : Int)) = ((i + (c.toNat + 1) : Nat) : Int) := by clear hw2; omega
        have hr2 : i + (c.toNat + 1) ≤ s.size + 255 := by clear hw2; omega
        have hr3 : s.size - (i + (c.toNat + 1)) < s.size - i := by clear hw2; omega
        have HR := Lib.hid (And.intro hk2 (And.intro hr1 (And.intro hr2 hr3)))
        have hwc : wrap64 (c.toNat : Int) = (c.toNat : Int) := IntWalk.wrap64_in _ hz1
        have hw3 : wrap64 (1 + (c.toNat : Int)) = 1 + (c.toNat : Int) := IntWalk.wrap64_in _ hz2
        have hw4 : wrap64 ((i : Int) + (1 + (c.toNat : Int))) = (i : Int) + (1 + (c.toNat : Int)) := IntWalk.wrap64_in _ hz3
        clear hk2 hdr hr1 hr2 hr3 hz1 hz2 hz3 hi hw2 hlI hlt' hc255 hp hB hlow hs
        have HW4 := Lib.hid hw4
        go_wp2_with fail
        go_roundw
        case rel =>
          obtain ⟨a1, a2, a3, a4⟩ := HR.out
          exact ⟨trivial, i + (c.toNat + 1), by rw [HW4.out, a2], a3, a1⟩
        case measure =>
          obtain ⟨a1, a2, a3, a4⟩ := HR.out
          exact lt_sub_of (by rw [HW4.out, a2]; rfl) rfl a4
    · as_aux_lemma =>
      have hge : (s.size : Int) ≤ (i : Int) := by omega
      have hf := first_none (s := s) (by rw [HK.out, List.drop_of_length_le (by rw [NM.bs_length]; omega), NM.skip_nil])
      have HF := Lib.hid hf
      clear hf
      go_wp2_with fail
      go_ret
      exact ⟨ByteArray.empty, ByteArray.empty, false, rfl, .inr ⟨rfl, HF.out⟩, .inl ⟨rfl, Touch.refl _ _⟩⟩
end Go.Proofs.Ytibbfihnhlgkeaa

/- Expire; MinFunc over the heap by use. -/
import Derived.Test.YtibbfihnhlgkeaaGreatCacheU
namespace Go.Proofs.YtibbfihnhlgkeaaGreat
open Go.RowKit Go.Maps Go.WideMaps
open NM (Bs bs ofBs)
open CM (It C)

set_option maxRecDepth 10000 in
set_option maxHeartbeats 800000 in
theorem expire_any (w : World) (B : Nat) (mo : Option Nat) (v : Value) (m u : Int) (l : List It) (h : K w B mo v m u l) (now : Int) :
    Calls Tryz.prog 13 #[.pointer (some ⟨B, 0, none⟩), .int .i64 now] w fun e w' => e = .returned (.int .i64 ((CM.expire l.length l now).2 : Int)) ∧ ∃ v', K w' B mo v' m u (CM.expire l.length l now).1 ∧ Touch (cfoot B mo v l) w w' ∧ v'.ownBlock = v.ownBlock := by
  obtain ⟨E, hE⟩ : ∃ E, E = CM.expire l.length l now := ⟨_, rfl⟩
  rw [← hE]
  have HE := Lib.hid hE
  have HH := Lib.hid h
  clear hE h
  go_enter Tryz.func13, Tryz.ntmps13
  go_wp2_with fail
  go_loopw [5] (fun s5 wr => ∃ (k : Nat) (l' : List It) (v' : Value), s5 = .int .i64 (k : Int) ∧ K wr B mo v' m u l' ∧ Touch (cfoot B mo v l) w wr ∧ v'.ownBlock = v.ownBlock ∧ (∀ x ∈ l', x ∈ l) ∧ k + l'.length = l.length ∧ (CM.expire l'.length l' now).1 = E.1 ∧ (CM.expire l'.length l' now).2 + k = E.2) (fun s5 _ => l.length - (intOf s5).toNat)
  case atStart => exact ⟨0, l, v, rfl, HH.out, Touch.refl _ _, rfl, fun _ hx => hx, by omega, by rw [HE.out], by rw [HE.out]; rfl⟩
  case round =>
    obtain ⟨k, l', v', rfl, hK, hT, hvo, hsub, hkl, h1, h2⟩ := hrel
    obtain ⟨wo, rfl⟩ : ∃ wo, wo = wr := ⟨_, rfl⟩
    have HK := Lib.hid hK
    have HT := Lib.hid hT
    have HVO := Lib.hid (And.intro hvo hsub)
    have H12 := Lib.hid (And.intro h1 (And.intro h2 hkl))
    have hc := hK.hp.blk.cell 2
    clear hT hvo hsub h1 h2
    cases l' with
    | nil =>
      obtain ⟨a, c, rfl⟩ : ∃ a c, v' = .slice a 0 c := by
        rcases hK.hp.shape with ⟨rfl, _⟩ | ⟨G, cap, rfl⟩
        · exact ⟨_, _, rfl⟩
        · exact ⟨_, _, rfl⟩
      have hc : wo.cell? ⟨B, 2, none⟩ = some (.slice a 0 c) := hc
      have HQ := Lib.hid (show E.1 = [] ∧ E.2 = k from ⟨H12.out.1.symm, by have := H12.out.2.1; simpa [CM.expire] using this.symm⟩)
      clear hK hkl
      go_wp2_with fail
      go_ret
      exact ⟨by rw [HQ.out.2]; rfl, _, by rw [HQ.out.1]; exact HK.out, HT.out, HVO.out.1⟩
    | cons x t =>
      obtain ⟨G, cap, rfl⟩ : ∃ G cap, v' = .slice (some ⟨G, 0, none⟩) (x :: t).length cap := by
        rcases hK.hp.shape with ⟨_, e⟩ | h
        · cases e
        · exact h
      obtain ⟨_, hr, hs⟩ := hK.hp.row
      have hc : wo.cell? ⟨B, 2, none⟩ = some (.slice (some ⟨G, 0, none⟩) (x :: t).length cap) := hc
      have c0 := hr.cell 0 (by simp)
      have c1 : wo.cell? ⟨x.g, 5, none⟩ = some (.int .i64 x.e.til) := (hr.items 0 (by simp)).cell 5
      have hpp : ptr ((x :: t)[0]'(by simp)) = .pointer (some ⟨x.g, 0, none⟩) := rfl
      rw [hpp] at c0
      obtain ⟨n, hn⟩ : ∃ n, n = t.length := ⟨_, rfl⟩
      have hc : wo.cell? ⟨B, 2, none⟩ = some (.slice (some ⟨G, 0, none⟩) (n + 1) cap) := by rw [hn]; exact hc
      have HD := Lib.hid (drop_any wo B mo _ m u (x :: t) hK 0 (by simp))
      have hlen := hK.len
      have HN := Lib.hid (And.intro hn (And.intro hkl (HH.out.len)))
      have hn1 : (0 : Int) < (n : Int) + 1 := by omega
      obtain ⟨g, hg⟩ : ∃ g, g = x.g := ⟨_, rfl⟩
      obtain ⟨y, hy⟩ : ∃ y, y = x.e.til := ⟨_, rfl⟩
      rw [← hg] at c0 c1
      rw [← hy] at c1
      have hex : CM.expire (x :: t).length (x :: t) now = if x.e.til < now then ((CM.expire t.length (CM.remove (x :: t) 0) now).1, (CM.expire t.length (CM.remove (x :: t) 0) now).2 + 1) else (x :: t, 0) := CM.expire_cons t.length x t now
      have hrl : (CM.remove (x :: t) 0).length = t.length := by rw [CM.remove_length]; rfl
      have hw : k < 1099511627775 := by
        have := HN.out
        simp at this
        omega
      by_cases hlt : x.e.til < now
      · rw [if_pos hlt] at hex
        have HX := Lib.hid (And.intro hex hrl)
        rw [← hy] at hlt
        have hwr : wrap64 ((k : Int) + 1) = (k : Int) + 1 := IntWalk.wrap64_in _ (by omega)
        have HDD : Hid (Calls Tryz.prog 30 #[.pointer (some ⟨B, 0, none⟩), .pointer (some ⟨g, 0, none⟩)] wo fun e w' => (∃ r, e = .returned r) ∧ ∃ v', K w' B mo v' m u (CM.remove (x :: t) 0) ∧ Touch (cfoot B mo (.slice (some ⟨G, 0, none⟩) (x :: t).length cap) (x :: t)) wo w' ∧ v'.ownBlock = (Value.slice (some ⟨G, 0, none⟩) (x :: t).length cap).ownBlock) := by rw [hg]; exact HD
        have HW := Lib.hid hwr
        clear hK hkl hlen hr hs hpp hn hg hy hex hrl HD hw hwr
        go_wp2_with fail
        refine HDD.out.mono ?_
        rintro e w1 ⟨⟨r, rfl⟩, v1, hK1, T1, hv1⟩
        have H1 := Lib.hid (And.intro hK1 (And.intro T1 hv1))
        have hwr := HW.out
        clear hK1 T1 hv1 HDD c0 c1 hc
        go_wp2_with fail
        go_roundw
        case rel =>
          obtain ⟨hK1, T1, hv1⟩ := H1.out
          obtain ⟨e1, e2⟩ := HX.out
          obtain ⟨e3, e4, e5⟩ := H12.out
          refine ⟨k + 1, CM.remove (x :: t) 0, v1, by rw [hwr]; rfl, hK1, ?_, hv1.trans HVO.out.1, fun y hy => HVO.out.2 y ((CM.remove_perm (x :: t) 0 (by simp)).subset (List.mem_cons_of_mem _ hy)), by rw [e2]; simp at e5; omega, ?_, ?_⟩
          · refine HT.out.trans T1 (fun q hq => .inl ?_)
            unfold cfoot at hq ⊢
            simp only [List.mem_cons, List.mem_append] at hq ⊢
            rcases hq with h | h | h | h
            · exact .inl h
            · exact .inr (.inl h)
            · exact .inr (.inr (.inl (by rw [← HVO.out.1]; exact h)))
            · obtain ⟨z, hz, e9⟩ := List.mem_map.1 h
              exact .inr (.inr (.inr (e9 ▸ List.mem_map_of_mem (HVO.out.2 z hz))))
          · rw [e2, ← e3, e1]
          · rw [e2, ← e4, e1]
            show _ = (CM.expire t.length (CM.remove (x :: t) 0) now).2 + 1 + k
            omega
        case measure =>
          have e5 := H12.out.2.2
          exact lt_sub_of (x := k + 1) (i := k) (by rw [hwr]; rfl) rfl (by simp at e5; omega)
      · rw [if_neg hlt] at hex
        have HX := Lib.hid hex
        rw [← hy] at hlt
        have hge : now ≤ y := by omega
        clear hK hkl hlen hr hs hpp hn hg hy hex hrl HD hw hlt
        go_wp2_with fail
        go_ret
        refine ⟨?_, _, ?_, HT.out, HVO.out.1⟩
        · have := H12.out.2.1
          rw [HX.out] at this
          rw [← this]
          show _ = Ending.returned (.int .i64 (((0 + k : Nat)) : Int))
          rw [Nat.zero_add]
          rfl
        · rw [← H12.out.1, HX.out]
          exact HK.out
end Go.Proofs.YtibbfihnhlgkeaaGreat

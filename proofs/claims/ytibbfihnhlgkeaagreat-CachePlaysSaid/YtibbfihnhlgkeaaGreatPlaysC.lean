import Derived.Test.YtibbfihnhlgkeaaGreatPlaysB
import Derived.Deep.DeepCutAuto
import Derived.Deep.RegionWith
import Derived.Deep.QuietTactic
import Derived.BigQuiet
import Derived.Deep.RegionHeld3

/- CachePlays: a call on both caches. -/
namespace Go.Proofs.YtibbfihnhlgkeaaGreat
open Go.RowKit Go.Maps Go.WideMaps
open NM (Bs bs ofBs)
open CM (It C)

theorem op_range {w W : World} {blk off : Nat} {kd nw N : Int} {e : CM.E} {rv : Value} (h : ∀ j, j < 12 → w.cell? ⟨blk, off + j, none⟩ = (opV kd nw N e rv)[j]?) (T : Touch [] w W) : W.rangeAt blk off (opV kd nw N e rv).toList := by
  intro j v hv
  rw [Array.getElem?_toList] at hv
  have hj : j < 12 := by
    have := (Array.getElem?_eq_some_iff.1 hv).1
    simpa [opV] using this
  exact touch_cell T (by rw [h j hj]; exact hv) (by simp)
abbrev zeroO : Array Value := #[.int .i64 0, .int .i64 0, .int .i64 0, .int .i64 0, .string ⟨#[]⟩, .int .u16 0, .int .u16 0, .slice none 0 0, .int .i64 0, .int .i64 0, .int .i64 0, .int .i64 0]
theorem opV_cells (kd nw N : Int) (e : CM.E) (a : Option Addr) (n c : Nat) : (opV kd nw N e (.slice a n c)).all (·.oneCell') = true := by
  unfold opV
  simp
  exact ⟨rfl, rfl, rfl, rfl, rfl, rfl, rfl, rfl, rfl, rfl, rfl, rfl⟩
/-- the state between calls -/
structure PSt (w W : World) (B : Nat) (c : C) (D : Nat) (m : Int) (L : List CM.E) (i : Nat) (Os : List (Nat × Array Value)) (Xs : List (Nat × CM.E × Value)) : Prop where
  q : Q w W B c D m L Os Xs
  s : CM.Sim c L
  most : c.most = m
  uses : c.uses ≤ i
theorem PSt.quiet {w W W' : World} {B : Nat} {c : C} {D : Nat} {m : Int} {L : List CM.E} {i : Nat} {Os : List (Nat × Array Value)} {Xs : List (Nat × CM.E × Value)} (h : PSt w W B c D m L i Os Xs) (T : Touch [] W W') : PSt w W' B c D m L i Os Xs := ⟨h.q.quiet T, h.s, h.most, h.uses⟩
theorem PSt.small {w W : World} {B : Nat} {c : C} {D : Nat} {m : Int} {L : List CM.E} {i : Nat} {Os : List (Nat × Array Value)} {Xs : List (Nat × CM.E × Value)} (h : PSt w W B c D m L i Os Xs) (hm : 1 ≤ m ∧ m ≤ 100000) : L.length ≤ 100000 ∧ (∀ e ∈ L, e.recs.length ≤ 64) ∧ CM.room c = m := by
  have h1 := h.q.oc.inv.len
  have h2 : CM.room c = m := by unfold CM.room; rw [h.most]; omega
  refine ⟨?_, fun e he => ?_, h2⟩
  · have := h.s.len
    omega
  · obtain ⟨R, o, rfl⟩ := h.s.ex
    obtain ⟨x, hx, rfl⟩ := List.mem_map.1 he
    exact (check_name (h.q.oc.inv.key x (o.mem.1 hx)).2).2.1
section
variable {w W : World} {B : Nat} {c : C} {D : Nat} {m : Int} {L : List CM.E} {O : Nat} {kd nw N : Int} {e0 : CM.E} {rv : Value} {Xs : List (Nat × CM.E × Value)} {X : Nat} {E : CM.E} {ra : Value} {Os : List (Nat × Array Value)}
theorem Q.o1 (h : Q w W B c D m L [(O, opV kd nw N e0 rv)] Xs) : W.cell? ⟨O, 1, none⟩ = some (.int .i64 nw) := (h.os _ (List.mem_singleton.2 rfl)).cell 1
theorem Q.o2 (h : Q w W B c D m L [(O, opV kd nw N e0 rv)] Xs) : W.cell? ⟨O, 2, none⟩ = some (.int .i64 N) := (h.os _ (List.mem_singleton.2 rfl)).cell 2
theorem Q.x9 (h : Q w W B c D m L Os [(X, E, ra)]) : W.cell? ⟨X, 0, none⟩ = some (.int .i64 E.kind) ∧ W.cell? ⟨X, 1, none⟩ = some (.string E.name) ∧ W.cell? ⟨X, 2, none⟩ = some (.int .u16 E.type) ∧ W.cell? ⟨X, 3, none⟩ = some (.int .u16 E.cls) ∧ W.cell? ⟨X, 4, none⟩ = some ra ∧
    W.cell? ⟨X, 5, none⟩ = some (.int .i64 E.til) ∧ W.cell? ⟨X, 6, none⟩ = some (.int .i64 E.rank) ∧ W.cell? ⟨X, 7, none⟩ = some (.int .i64 E.epoch) ∧ W.cell? ⟨X, 8, none⟩ = some (.int .i64 E.src) := entCells (h.xs _ (List.mem_singleton.2 rfl)).1
end

/-- a block of a code -/
def blockOf (n : Nat) : Code → Option Code
  | .block k c => if k = n then some (.block k c) else blockOf n c
  | .loop c => blockOf n c
  | .seq a b => match blockOf n a with
    | some c => some c
    | none => blockOf n b
  | .scope c => blockOf n c
  | .cond _ a b => match blockOf n a with
    | some c => some c
    | none => blockOf n b
  | _ => none
noncomputable def swCode : Code := ((Tryz.f3.body.bind (blockOf 2)).getD .skip)
set_option maxRecDepth 100000 in
set_option maxHeartbeats 40000000 in
theorem plays_sw (w w5 : World) (B D O X : Nat) (k : Int) (hk : 0 ≤ k ∧ k ≤ 9) (c : C) (m : Int) (hm : 1 ≤ m ∧ m ≤ 100000) (L : List CM.E) (i : Nat) (hi : i < 80) (kd nw N : Int) (e0 : CM.E) (rv0 : Value) (E : CM.E) (hf : DOk E ∧ E.recs.length ≤ 70 ∧ E.name.size ≤ 300) (a4 : Option Addr) (l4 : Nat)
    (hp : PSt w w5 B c D m L i [(O, opV kd nw N e0 rv0)] [(X, E, .slice a4 E.recs.length l4)]) {v0 v1 v2 v3 v4 v5 v8 v13 v14 v15 v16 v17 v18 v19 v20 v21 v22 v23 v24 v25 v26 v27 v28 v29 v30 v31 v32 v33 v34 v35 v36 v37 v38 v39 v40 v41 v42 v43 v44 v45 v46 v47 v48 v49 v50 v51 v52 v53 v54 v55 v56 v57 v58 v60 v61 v62 v63 v64 v65 v66 v67 v68 v69 v70 v71 v72 v73 v74 v75 v76 v77 v78 v79 v80 v81 v82 v83 v84 v85 v86 v87 v88 v89 v90 v91 v92 v93 v94 v95 v96 v97 v98 v99 v100 v101 v102 v103 v104 v105 v106 v107 v108 v109 v110 v111 v112 v113 v114 v115 v116 v117 v118 v119 v120 v121 v122 v123 v124 v125 v126 v127 v128 v129 v130 v131 v132 v133 v134 v135 v136 v137 v138 v139 v140 v141 v142 v143 v144 v145 v146 v147 v148 v149 v150 v151 v152 v153 v154 v155 v156 v157 v158 v159 v160 v161 v162 v163 v164 v165 v166 v167 v168 v169 v170 v171 v172 v173 v174 v175 v176 v177 v178 v179 v180 v181 v182 v183 v184 v185 v186 v187 v188 v189 v190 v191 v192 v193 v194 v195 v196 v197 v198 v199 v200 v201 v202 v203 v204 v205 v206 v207 v208 v209 v210 v211 v212 v213 v214 v215 v216 v217 v218 v219 : Value} {K : Act → World → Prop} {Q' : Exit → Act → World → Prop}
    (hK : ∀ (z13 z14 z15 z16 z17 z18 z19 z20 z21 z22 z60 z61 z62 z63 z64 z65 z66 z67 z68 z69 z70 z71 z72 z73 z74 z75 z76 z77 z78 z79 z80 z81 z82 z83 z84 z85 z86 z87 z88 z89 z90 z91 z92 z93 z94 z95 z96 z97 z98 z99 z100 z101 z102 z103 z104 z105 z106 z107 z108 z109 z110 z111 z112 z113 z114 z115 z116 z117 z118 z119 z120 z121 z122 z123 z124 z125 z126 z127 z128 z129 z130 z131 z132 z133 z134 z135 z136 z137 z138 z139 z140 z141 z142 z143 z144 z145 z146 z147 z148 z149 z150 z151 z152 z153 z154 z155 z156 z157 z158 z159 z160 z161 z162 z163 z164 z165 z166 z167 z168 z169 z170 z171 z172 z173 z174 z175 z176 : Value) (wx : World), (∃ c' L', PSt w wx B c' D m L' (i + 1) [] []) → K ⟨#[v0, v1, v2, v3, v4, v5, .pointer (some ⟨B, 0, none⟩), .pointer (some ⟨D, 0, none⟩), v8, .pointer (some ⟨O, 0, none⟩), .pointer (some ⟨X, 0, none⟩), .int .i64 k, .bool true, z13, z14, z15, z16, z17, z18, z19, z20, z21, z22, v23, v24, v25, v26, v27, v28, v29, v30, v31, v32, v33, v34, v35, v36, v37, v38, v39, v40, v41, v42, v43, v44, v45, v46, v47, v48, v49, v50, v51, v52, v53, v54, v55, v56, v57, v58, .int .i64 k, z60, z61, z62, z63, z64, z65, z66, z67, z68, z69, z70, z71, z72, z73, z74, z75, z76, z77, z78, z79, z80, z81, z82, z83, z84, z85, z86, z87, z88, z89, z90, z91, z92, z93, z94, z95, z96, z97, z98, z99, z100, z101, z102, z103, z104, z105, z106, z107, z108, z109, z110, z111, z112, z113, z114, z115, z116, z117, z118, z119, z120, z121, z122, z123, z124, z125, z126, z127, z128, z129, z130, z131, z132, z133, z134, z135, z136, z137, z138, z139, z140, z141, z142, z143, z144, z145, z146, z147, z148, z149, z150, z151, z152, z153, z154, z155, z156, z157, z158, z159, z160, z161, z162, z163, z164, z165, z166, z167, z168, z169, z170, z171, z172, z173, z174, z175, z176, v177, v178, v179, v180, v181, v182, v183, v184, v185, v186, v187, v188, v189, v190, v191, v192, v193, v194, v195, v196, v197, v198, v199, v200, v201, v202, v203, v204, v205, v206, v207, v208, v209, v210, v211, v212, v213, v214, v215, v216, v217, v218, v219], []⟩ wx) :
    Code.wp Tryz.prog swCode (Exit.then K Q') ⟨#[v0, v1, v2, v3, v4, v5, .pointer (some ⟨B, 0, none⟩), .pointer (some ⟨D, 0, none⟩), v8, .pointer (some ⟨O, 0, none⟩), .pointer (some ⟨X, 0, none⟩), .int .i64 k, .bool true, v13, v14, v15, v16, v17, v18, v19, v20, v21, v22, v23, v24, v25, v26, v27, v28, v29, v30, v31, v32, v33, v34, v35, v36, v37, v38, v39, v40, v41, v42, v43, v44, v45, v46, v47, v48, v49, v50, v51, v52, v53, v54, v55, v56, v57, v58, .int .i64 k, v60, v61, v62, v63, v64, v65, v66, v67, v68, v69, v70, v71, v72, v73, v74, v75, v76, v77, v78, v79, v80, v81, v82, v83, v84, v85, v86, v87, v88, v89, v90, v91, v92, v93, v94, v95, v96, v97, v98, v99, v100, v101, v102, v103, v104, v105, v106, v107, v108, v109, v110, v111, v112, v113, v114, v115, v116, v117, v118, v119, v120, v121, v122, v123, v124, v125, v126, v127, v128, v129, v130, v131, v132, v133, v134, v135, v136, v137, v138, v139, v140, v141, v142, v143, v144, v145, v146, v147, v148, v149, v150, v151, v152, v153, v154, v155, v156, v157, v158, v159, v160, v161, v162, v163, v164, v165, v166, v167, v168, v169, v170, v171, v172, v173, v174, v175, v176, v177, v178, v179, v180, v181, v182, v183, v184, v185, v186, v187, v188, v189, v190, v191, v192, v193, v194, v195, v196, v197, v198, v199, v200, v201, v202, v203, v204, v205, v206, v207, v208, v209, v210, v211, v212, v213, v214, v215, v216, v217, v218, v219], []⟩ w5 := by
  have HK := Lib.hid hK
  have HP := Lib.hid hp
  have HM := Lib.hid hm
  have HF := Lib.hid hf
  have HI := Lib.hid hi
  have HKK := Lib.hid hk
  clear hK hp hm hf hi hk
  conv => arg 2; whnf
  obtain ⟨b45, hb45⟩ : ∃ b : Bool, b = (k == 4 || k == 5) := ⟨_, rfl⟩
  have HB45 := Lib.hid hb45
  clear hb45
  go_upto_if 71 with (fail)
  go_cut [71] from 60 to 176 (fun s wx => s = .bool b45 ∧ wx = w5)
  case first =>
    by_cases q : k = 4
    · have q' : (k == 4) = true := by simpa using q
      clear q
      go_wp2_with fail
      go_meet
      exact ⟨by rw [HB45.out, q']; rfl, rfl⟩
    · have q' : (k == 4) = false := by simpa using q
      clear q
      go_wp2_with fail
      go_meet
      exact ⟨by rw [HB45.out, q']; rfl, rfl⟩
  case rest =>
  obtain ⟨rfl, hw⟩ := hcut
  obtain rfl := hw.symm
  cases b45 with
  | true =>
    obtain ⟨ky, hky⟩ : ∃ q, q = ofBs (CM.keyB 0 (bs E.name) E.type E.cls) := ⟨_, rfl⟩
    have hc := qget HP.out.q E.name (by have := HF.out.2.2; omega) E.type E.cls HF.out.1.2.1 HF.out.1.2.2 nw (by have := HP.out.uses; have := HI.out; omega)
    rw [← hky] at hc
    have HSML := Lib.hid (HP.out.small HM.out)
    have HTS := Lib.hid (tell_sim HP.out.s HP.out.q.oc.inv ky nw)
    have HTM := Lib.hid (tellC_most c ky nw)
    obtain ⟨o, ho⟩ : ∃ o, o = (CM.dtell L ky nw).1 := ⟨_, rfl⟩
    rw [HTS.out.2, ← ho] at hc
    have HC := Lib.hid hc
    have HO := Lib.hid ho
    obtain ⟨y0, y1, y2, y3, y4, y5, y6, y7, y8⟩ := HP.out.q.x9
    have z1 := HP.out.q.o1
    have HKY := Lib.hid hky
    clear hc ho hky y0 y4 y5 y6 y7 y8 HB45
    go_wp2_with fail
    refine HC.out.mono ?_
    rintro e1 w6 ⟨⟨ra, rc, rfl, hrow, hlen⟩, hq6⟩
    obtain ⟨T, hT⟩ : ∃ q, q = (toldB o).1 := ⟨_, rfl⟩
    obtain ⟨is, his⟩ : ∃ q, q = (toldB o).2 := ⟨_, rfl⟩
    rw [← hT] at hrow hlen ⊢
    rw [← his]
    have HB6 := Lib.hid (Blk.new w6 31 zeroE)
    obtain ⟨w7, hw7⟩ : ∃ W, W = (w6.alloc (.cells zeroE 31)).setRow w6.heap.size (entV T (.slice ra T.recs.length rc)) := ⟨_, rfl⟩
    have t7 : Touch [] w6 w7 := by rw [hw7]; exact laid_t _ _
    have hD7 : Blk w7 w6.heap.size 31 (entV T (.slice ra T.recs.length rc)) := by rw [hw7]; exact HB6.out.row _
    have hqA1 := hq6.addX t7 hD7 (Nat.le_refl _) hrow
    have HW7 := Lib.hid hw7
    have hd := qdget hqA1 (fun e he => by have := HSML.out.2.1 e he; omega) E.name (by have := HF.out.2.2; omega) E.type E.cls HF.out.1.2.1 HF.out.1.2.2 nw
    rw [← HKY.out, ← HO.out] at hd
    have HD := Lib.hid hd
    have x1 : w7.cell? ⟨X, 1, none⟩ = some (.string E.name) := (hqA1.xs (X, E, .slice a4 E.recs.length l4) (by simp)).1.cell 1
    have x2 : w7.cell? ⟨X, 2, none⟩ = some (.int .u16 E.type) := (hqA1.xs (X, E, .slice a4 E.recs.length l4) (by simp)).1.cell 2
    have x3 : w7.cell? ⟨X, 3, none⟩ = some (.int .u16 E.cls) := (hqA1.xs (X, E, .slice a4 E.recs.length l4) (by simp)).1.cell 3
    have x4 : w7.cell? ⟨O, 1, none⟩ = some (.int .i64 nw) := hqA1.o1
    have HTT := Lib.hid (And.intro hT (And.intro his hlen))
    clear hrow hlen hq6 t7 hw7 hD7 hd hT his hqA1 HC y1 y2 y3 z1
    go_upto_region 20 with (refine wpList_store_rowTo rfl 31 (.tmp 13) (.tmp 85) rfl rfl w6.heap.size (entV T (.slice ra T.recs.length rc)) rfl rfl 31 zeroE HB6.out (by kernel_rfl) rfl (entV_cells _ _ _ _) ?_; rw [← HW7.out])
    obtain ⟨A, hA⟩ : ∃ q, q = w6.heap.size := ⟨_, rfl⟩
    rw [← hA] at HD ⊢
    clear HB6 HW7 hA
    go_wp2_with fail
    refine HD.out.mono ?_
    rintro e1 w8 ⟨⟨ra2, rc2, rfl, hrow2, hlen2⟩, hq8⟩
    rw [← HTT.out.1] at hrow2 ⊢
    rw [← HTT.out.2.1]
    have HB8 := Lib.hid (Blk.new w8 31 zeroE)
    obtain ⟨w9, hw9⟩ : ∃ W, W = (w8.alloc (.cells zeroE 31)).setRow w8.heap.size (entV T (.slice ra2 T.recs.length rc2)) := ⟨_, rfl⟩
    have t9 : Touch [] w8 w9 := by rw [hw9]; exact laid_t _ _
    have hD9 : Blk w9 w8.heap.size 31 (entV T (.slice ra2 T.recs.length rc2)) := by rw [hw9]; exact HB8.out.row _
    have hq9 := hq8.addX t9 hD9 (Nat.le_refl _) hrow2
    have HQ9 := Lib.hid hq9
    have HW9 := Lib.hid hw9
    clear hrow2 hlen2 hq8 t9 hw9 hD9 x1 x2 x3 x4 HD
    go_upto_region 21 with (refine wpList_store_rowTo rfl 31 (.tmp 15) (.tmp 98) rfl rfl w8.heap.size (entV T (.slice ra2 T.recs.length rc2)) rfl rfl 31 zeroE HB8.out (by kernel_rfl) rfl (entV_cells _ _ _ _) ?_; rw [← HW9.out])
    obtain ⟨A2, hA2⟩ : ∃ q, q = w8.heap.size := ⟨_, rfl⟩
    rw [← hA2] at HQ9 ⊢
    have HXA := Lib.hid (HQ9.out.xs (A, T, .slice ra T.recs.length rc) (by simp))
    have HXB := Lib.hid (HQ9.out.xs (A2, T, .slice ra2 T.recs.length rc2) (by simp))
    have HSA := Lib.hid (same_any w9 T T (.slice ra T.recs.length rc) (.slice ra2 T.recs.length rc2) (RecsAt.of_row HXA.out.2).1 (RecsAt.of_row HXB.out.2).1 (by have := HTT.out.2.2; omega))
    clear HB8 HW9 hA2
    go_wp2_with (first
      | (refine wpList_load_row rfl 31 (.tmp 13) rfl A rfl 31 (entV T (.slice ra T.recs.length rc)) (0, 0) _ HXA.out.1 Tryz.underlying31 rfl (by kernel_rfl) ?_)
      | (refine wpList_load_row rfl 31 (.tmp 15) rfl A2 rfl 31 (entV T (.slice ra2 T.recs.length rc2)) (0, 0) _ HXB.out.1 Tryz.underlying31 rfl (by kernel_rfl) ?_))
    refine HSA.out.mono ?_
    rintro e wq ⟨⟨rs, rfl, hrs⟩, tq⟩
    obtain rfl : rs = true := hrs.2 rfl
    have HQE := Lib.hid (show ∃ c' L', PSt w wq B c' D m L' (i + 1) [] [] from ⟨_, _, (HQ9.out.quiet tq).drop, by rw [HKY.out]; rw [← HKY.out]; exact HTS.out.1, by rw [HTM.out.1]; exact HP.out.most, by have := HTM.out.2; have := HP.out.uses; push_cast; omega⟩)
    clear tq hrs HSA HXA HXB HQ9
    cases is <;> (go_wp2_with fail; apply HK.out; exact HQE.out)
  | false =>
    by_cases q6 : k = 6
    · have q' : (k == 6) = true := by simpa using q6
      clear q6
      obtain ⟨ky, hky⟩ : ∃ q, q = ofBs (CM.keyB 1 (bs E.name) ((0 : Nat) : Int) E.cls) := ⟨_, rfl⟩
      have hc := qname HP.out.q E.name (by have := HF.out.2.2; omega) E.cls HF.out.1.2.2 nw (by have := HP.out.uses; have := HI.out; omega)
      rw [← hky] at hc
      have HSML := Lib.hid (HP.out.small HM.out)
      have HTS := Lib.hid (tell_sim HP.out.s HP.out.q.oc.inv ky nw)
      have HTM := Lib.hid (tellC_most c ky nw)
      obtain ⟨o, ho⟩ : ∃ o, o = (CM.dtell L ky nw).1 := ⟨_, rfl⟩
      rw [HTS.out.2, ← ho] at hc
      have HC := Lib.hid hc
      have HO := Lib.hid ho
      obtain ⟨y0, y1, y2, y3, y4, y5, y6, y7, y8⟩ := HP.out.q.x9
      have z1 := HP.out.q.o1
      have HKY := Lib.hid hky
      clear hc ho hky y0 y4 y5 y6 y7 y8 HB45
      go_wp2_with fail
      refine HC.out.mono ?_
      rintro e1 w6 ⟨⟨ra, rc, rfl, hrow, hlen⟩, hq6⟩
      obtain ⟨T, hT⟩ : ∃ q, q = (toldB o).1 := ⟨_, rfl⟩
      obtain ⟨is, his⟩ : ∃ q, q = (toldB o).2 := ⟨_, rfl⟩
      rw [← hT] at hrow hlen ⊢
      rw [← his]
      have HB6 := Lib.hid (Blk.new w6 31 zeroE)
      obtain ⟨w7, hw7⟩ : ∃ W, W = (w6.alloc (.cells zeroE 31)).setRow w6.heap.size (entV T (.slice ra T.recs.length rc)) := ⟨_, rfl⟩
      have t7 : Touch [] w6 w7 := by rw [hw7]; exact laid_t _ _
      have hD7 : Blk w7 w6.heap.size 31 (entV T (.slice ra T.recs.length rc)) := by rw [hw7]; exact HB6.out.row _
      have hqA1 := hq6.addX t7 hD7 (Nat.le_refl _) hrow
      have HW7 := Lib.hid hw7
      have hd := qdname hqA1 (fun e he => by have := HSML.out.2.1 e he; omega) E.name (by have := HF.out.2.2; omega) E.cls HF.out.1.2.2 nw
      rw [← HKY.out, ← HO.out] at hd
      have HD := Lib.hid hd
      have x1 : w7.cell? ⟨X, 1, none⟩ = some (.string E.name) := (hqA1.xs (X, E, .slice a4 E.recs.length l4) (by simp)).1.cell 1
      have x2 : w7.cell? ⟨X, 2, none⟩ = some (.int .u16 E.type) := (hqA1.xs (X, E, .slice a4 E.recs.length l4) (by simp)).1.cell 2
      have x3 : w7.cell? ⟨X, 3, none⟩ = some (.int .u16 E.cls) := (hqA1.xs (X, E, .slice a4 E.recs.length l4) (by simp)).1.cell 3
      have x4 : w7.cell? ⟨O, 1, none⟩ = some (.int .i64 nw) := hqA1.o1
      have HTT := Lib.hid (And.intro hT (And.intro his hlen))
      clear hrow hlen hq6 t7 hw7 hD7 hd hT his hqA1 HC y1 y2 y3 z1
      go_upto_region 25 with (refine wpList_store_rowTo rfl 31 (.tmp 18) (.tmp 120) rfl rfl w6.heap.size (entV T (.slice ra T.recs.length rc)) rfl rfl 31 zeroE HB6.out (by kernel_rfl) rfl (entV_cells _ _ _ _) ?_; rw [← HW7.out])
      obtain ⟨A, hA⟩ : ∃ q, q = w6.heap.size := ⟨_, rfl⟩
      rw [← hA] at HD ⊢
      clear HB6 HW7 hA
      go_wp2_with fail
      refine HD.out.mono ?_
      rintro e1 w8 ⟨⟨ra2, rc2, rfl, hrow2, hlen2⟩, hq8⟩
      rw [← HTT.out.1] at hrow2 ⊢
      rw [← HTT.out.2.1]
      have HB8 := Lib.hid (Blk.new w8 31 zeroE)
      obtain ⟨w9, hw9⟩ : ∃ W, W = (w8.alloc (.cells zeroE 31)).setRow w8.heap.size (entV T (.slice ra2 T.recs.length rc2)) := ⟨_, rfl⟩
      have t9 : Touch [] w8 w9 := by rw [hw9]; exact laid_t _ _
      have hD9 : Blk w9 w8.heap.size 31 (entV T (.slice ra2 T.recs.length rc2)) := by rw [hw9]; exact HB8.out.row _
      have hq9 := hq8.addX t9 hD9 (Nat.le_refl _) hrow2
      have HQ9 := Lib.hid hq9
      have HW9 := Lib.hid hw9
      clear hrow2 hlen2 hq8 t9 hw9 hD9 x1 x2 x3 x4 HD
      go_upto_region 26 with (refine wpList_store_rowTo rfl 31 (.tmp 20) (.tmp 131) rfl rfl w8.heap.size (entV T (.slice ra2 T.recs.length rc2)) rfl rfl 31 zeroE HB8.out (by kernel_rfl) rfl (entV_cells _ _ _ _) ?_; rw [← HW9.out])
      obtain ⟨A2, hA2⟩ : ∃ q, q = w8.heap.size := ⟨_, rfl⟩
      rw [← hA2] at HQ9 ⊢
      have HXA := Lib.hid (HQ9.out.xs (A, T, .slice ra T.recs.length rc) (by simp))
      have HXB := Lib.hid (HQ9.out.xs (A2, T, .slice ra2 T.recs.length rc2) (by simp))
      have HSA := Lib.hid (same_any w9 T T (.slice ra T.recs.length rc) (.slice ra2 T.recs.length rc2) (RecsAt.of_row HXA.out.2).1 (RecsAt.of_row HXB.out.2).1 (by have := HTT.out.2.2; omega))
      clear HB8 HW9 hA2
      go_wp2_with (first
        | (refine wpList_load_row rfl 31 (.tmp 18) rfl A rfl 31 (entV T (.slice ra T.recs.length rc)) (0, 0) _ HXA.out.1 Tryz.underlying31 rfl (by kernel_rfl) ?_)
        | (refine wpList_load_row rfl 31 (.tmp 20) rfl A2 rfl 31 (entV T (.slice ra2 T.recs.length rc2)) (0, 0) _ HXB.out.1 Tryz.underlying31 rfl (by kernel_rfl) ?_))
      refine HSA.out.mono ?_
      rintro e wq ⟨⟨rs, rfl, hrs⟩, tq⟩
      obtain rfl : rs = true := hrs.2 rfl
      have HQE := Lib.hid (show ∃ c' L', PSt w wq B c' D m L' (i + 1) [] [] from ⟨_, _, (HQ9.out.quiet tq).drop, by rw [HKY.out]; rw [← HKY.out]; exact HTS.out.1, by rw [HTM.out.1]; exact HP.out.most, by have := HTM.out.2; have := HP.out.uses; push_cast; omega⟩)
      clear tq hrs HSA HXA HXB HQ9
      cases is <;> (go_wp2_with fail; apply HK.out; exact HQE.out)
    have q6' : (k == 6) = false := by simpa using q6
    by_cases q7 : k = 7
    · have q' : (k == 7) = true := by simpa using q7
      clear q6 q7
      have hse := HP.out.s.expire nw
      have HSE := Lib.hid hse
      obtain ⟨nE, hnE⟩ : ∃ q, q = (CM.expire c.h.length c.h nw).2 := ⟨_, rfl⟩
      have HNE := Lib.hid hnE
      have HCE := Lib.hid (fun W L' (q : Q w W B c D m L' [(O, opV kd nw N e0 rv0)] [(X, E, .slice a4 E.recs.length l4)]) => qexpire q nw)
      rw [← hnE] at HCE
      have HDE := Lib.hid (fun W c' (q : Q w W B c' D m L [(O, opV kd nw N e0 rv0)] [(X, E, .slice a4 E.recs.length l4)]) => qdexpire q nw)
      have q5 := HP.out.q
      have TD := Touch.drewN [] w5 1
      have q5d : Q w w5.drew B c D m L [(O, opV kd nw N e0 rv0)] [(X, E, .slice a4 E.recs.length l4)] := q5.quiet TD
      have z1 := q5.o1
      clear hse hnE HB45
      go_upto_region 29 with (fail)
      go_region_held3 (fun W => W.cell? ⟨O, 1, none⟩ = some (.int .i64 nw)) (first | exact z1 | exact q5d.o1 | exact qa.o1 | exact qb.o1 | exact qc.o1 | exact qd.o1)
        (first
          | (go_at_call 13; refine (HCE.out _ _ q5d).mono ?_; rintro e1 wa ⟨rfl, qa⟩)
          | (go_at_call 13; refine (HCE.out _ _ qb).mono ?_; rintro e1 wc ⟨rfl, qc⟩)
          | (go_at_call 14; refine (HDE.out _ _ q5d).mono ?_; rintro e1 wb ⟨⟨nb, rfl, hnb⟩, qb⟩; obtain rfl : nb = nE := by have h1 := HSE.out.2; rw [← HNE.out] at h1; omega)
          | (go_at_call 14; refine (HDE.out _ _ qa).mono ?_; rintro e1 wd ⟨⟨nb, rfl, hnb⟩, qd⟩; obtain rfl : nb = nE := by have h1 := HSE.out.2; rw [← HNE.out] at h1; omega))
      all_goals
        go_wp2_with fail
        apply HK.out
        first
          | exact ⟨_, _, qd.drop, HSE.out.1, HP.out.most, by have := HP.out.uses; push_cast; show c.uses ≤ _; omega⟩
          | exact ⟨_, _, qc.drop, HSE.out.1, HP.out.most, by have := HP.out.uses; push_cast; show c.uses ≤ _; omega⟩
    have q7' : (k == 7) = false := by simpa using q7
    by_cases q8 : k = 8
    · have q' : (k == 8) = true := by simpa using q8
      clear q6 q7 q8
      have HCE := Lib.hid (fun W L' (q : Q w W B c D m L' [(O, opV kd nw N e0 rv0)] [(X, E, .slice a4 E.recs.length l4)]) => qflush q E.name (by have := HF.out.2.2; omega) N)
      have HDE := Lib.hid (fun W c' (q : Q w W B c' D m L [(O, opV kd nw N e0 rv0)] [(X, E, .slice a4 E.recs.length l4)]) => qdflush q E.name (by have := HF.out.2.2; omega) N)
      have HSF := Lib.hid (fun (n nb : Nat) (l' : List It) W L' (q : Q w W B ⟨c.most, c.uses, l'⟩ D m L' [(O, opV kd nw N e0 rv0)] [(X, E, .slice a4 E.recs.length l4)]) (h1 : ∀ y, y ∈ l' ↔ y ∈ c.h ∧ CM.dflushed E.name N y.e = false) (h2 : n + l'.length = c.h.length) (h3 : CM.IsHp c.h → CM.IsHp l') (h4 : nb + (CM.dflush L E.name N).length = L.length) =>
        show CM.Sim ⟨c.most, c.uses, l'⟩ (CM.dflush L E.name N) ∧ n = nb from by
          have hs := HP.out.s.flush E.name N (nodup_gs q.oc.inv.gs) (h3 HP.out.s.hp) h1
          refine ⟨hs, ?_⟩
          have h5 := hs.len
          have h6 := HP.out.s.len
          have h7 : (CM.dflush L E.name N).length = l'.length := h5
          omega)
      have q5 := HP.out.q
      have TD := Touch.drewN [] w5 1
      have q5d : Q w w5.drew B c D m L [(O, opV kd nw N e0 rv0)] [(X, E, .slice a4 E.recs.length l4)] := q5.quiet TD
      have z1 := q5.o2
      have z2 := q5.x9.2.1
      clear HB45
      go_upto_region 31 with (fail)
      go_region_held3 (fun W => W.cell? ⟨O, 2, none⟩ = some (.int .i64 N) ∧ W.cell? ⟨X, 1, none⟩ = some (.string E.name)) (first | exact ⟨z1, z2⟩ | exact ⟨q5d.o2, q5d.x9.2.1⟩ | exact ⟨qa.o2, qa.x9.2.1⟩ | exact ⟨qb.o2, qb.x9.2.1⟩ | exact ⟨qc.o2, qc.x9.2.1⟩ | exact ⟨qd.o2, qd.x9.2.1⟩)
        (first
          | (go_at_call 15; refine (HCE.out _ _ q5d).mono ?_; rintro e1 wa ⟨na, l1, rfl, qa, ha1, ha2, ha3⟩)
          | (go_at_call 15; refine (HCE.out _ _ qb).mono ?_; rintro e1 wc ⟨na, l1, rfl, qc, ha1, ha2, ha3⟩; obtain ⟨hsf, rfl⟩ := HSF.out na nb l1 _ _ qc ha1 ha2 ha3 hnb)
          | (go_at_call 16; refine (HDE.out _ _ q5d).mono ?_; rintro e1 wb ⟨⟨nb, rfl, hnb⟩, qb⟩)
          | (go_at_call 16; refine (HDE.out _ _ qa).mono ?_; rintro e1 wd ⟨⟨nb, rfl, hnb⟩, qd⟩; obtain ⟨hsf, rfl⟩ := HSF.out na nb l1 _ _ qd ha1 ha2 ha3 hnb))
      all_goals
        have HSS := Lib.hid hsf
        clear ha1 ha2 ha3 hnb hsf
        go_wp2_with fail
        apply HK.out
        first
          | exact ⟨_, _, qd.drop, HSS.out, HP.out.most, by have := HP.out.uses; push_cast; show c.uses ≤ _; omega⟩
          | exact ⟨_, _, qc.drop, HSS.out, HP.out.most, by have := HP.out.uses; push_cast; show c.uses ≤ _; omega⟩
    have q8' : (k == 8) = false := by simpa using q8
    by_cases q9 : k = 9
    · have q' : (k == 9) = true := by simpa using q9
      clear q6 q7 q8 q9
      have q5 := HP.out.q
      obtain ⟨v, hdc, _⟩ := q5.dc
      obtain ⟨ad, cd, rfl⟩ := hdc.shape
      have hsml := HP.out.small HM.out
      obtain ⟨nL, hnL⟩ : ∃ q, q = L.length := ⟨_, rfl⟩
      have z1 : w5.cell? ⟨D, 1, none⟩ = some (.slice ad nL cd) := by rw [hnL]; exact hdc.blk.cell 1
      have HALL := Lib.hid (fun W (T : Touch [] w5 W) => qall (q5.quiet T) HP.out.s)
      have HSAME := Lib.hid (fun W a1 c1 (T : Touch [] w5 W) (h1 : REnt W a1 L) => sameall_any W a1 ad c1 cd L h1 (hdc.rent.touch T) (by have := hsml.1; omega) (fun e he => by have := hsml.2.1 e he; omega))
      rw [← hnL] at HALL HSAME
      have TD := Touch.drewN [] w5 1
      have HZ := Lib.hid (fun W (T : Touch [] w5 W) => touch_cell T z1 (by simp))
      clear HB45 hdc hsml hnL q5
      go_upto_region 33 with (fail)
      go_region_held3 (fun W => W.cell? ⟨D, 1, none⟩ = some (.slice ad nL cd)) (first | exact z1 | exact HZ.out _ TD | exact HZ.out _ ta | exact HZ.out _ tb)
        (first
          | (go_at_call 18; refine (HALL.out _ TD).mono ?_; rintro e1 wa ⟨aa, ca, rfl, ra, ta'⟩; have ta := TD.trans ta' (by simp))
          | (go_at_call 17; refine (HSAME.out _ _ _ ta ra).mono ?_; rintro e1 wb ⟨rfl, tb'⟩; have tb := ta.trans tb' (by simp)))
      all_goals
        clear HALL HSAME
        go_wp2_with fail
        apply HK.out
        exact ⟨c, L, (HP.out.q.quiet tb).drop, HP.out.s, HP.out.most, by have := HP.out.uses; push_cast; omega⟩
    have q9' : (k == 9) = false := by simpa using q9
    have q5 := HP.out.q
    have hsml := HP.out.small HM.out
    have hmay := HP.out.s.may HP.out.q.oc.inv E nw
    obtain ⟨mp, hmp⟩ : ∃ q, q = CM.mayPut c E nw := ⟨_, rfl⟩
    have HCE := Lib.hid (fun W L' (q : Q w W B c D m L' [(O, opV kd nw N e0 rv0)] [(X, E, .slice a4 E.recs.length l4)]) => qput q E a4 l4 (q.xs (X, E, .slice a4 E.recs.length l4) (by simp)).2 HF.out.1 (by have := HP.out.uses; have := HI.out; omega) nw)
    have HDE := Lib.hid (fun W c' (q : Q w W B c' D m L [(O, opV kd nw N e0 rv0)] [(X, E, .slice a4 E.recs.length l4)]) => qdput q E a4 l4 (q.xs (X, E, .slice a4 E.recs.length l4) (by simp)).2 HF.out.1 (by have := hsml.1; omega) HM.out.1 nw)
    rw [hmay] at HDE
    rw [← hmp] at HCE HDE
    have HSP := Lib.hid (fun c' (h : PutC c E nw c') => show CM.Sim c' (dputL m L E nw) ∧ c'.most = m ∧ c'.uses ≤ ((i + 1 : Nat) : Int) from by
      have h1 := (h.sim HP.out.s HP.out.q.oc.inv).1
      rw [hsml.2.2] at h1
      have h2 := h.most
      have := HP.out.uses
      exact ⟨h1, by rw [h2.1]; exact HP.out.most, by push_cast; omega⟩)
    have TD := Touch.drewN [] w5 1
    have q5d : Q w w5.drew B c D m L [(O, opV kd nw N e0 rv0)] [(X, E, .slice a4 E.recs.length l4)] := q5.quiet TD
    have z1 := q5.o1
    obtain ⟨x0, x1, x2, x3, x4, x5, x6, x7, x8⟩ := q5.x9
    clear q6 q7 q8 q9 HB45 hsml hmay hmp
    go_upto_region 16 with (fail)
    go_region_held3 (fun W => W.cell? ⟨O, 1, none⟩ = some (.int .i64 nw) ∧ W.cell? ⟨X, 0, none⟩ = some (.int .i64 E.kind) ∧ W.cell? ⟨X, 1, none⟩ = some (.string E.name) ∧ W.cell? ⟨X, 2, none⟩ = some (.int .u16 E.type) ∧ W.cell? ⟨X, 3, none⟩ = some (.int .u16 E.cls) ∧ W.cell? ⟨X, 4, none⟩ = some (.slice a4 E.recs.length l4) ∧
        W.cell? ⟨X, 5, none⟩ = some (.int .i64 E.til) ∧ W.cell? ⟨X, 6, none⟩ = some (.int .i64 E.rank) ∧ W.cell? ⟨X, 7, none⟩ = some (.int .i64 E.epoch) ∧ W.cell? ⟨X, 8, none⟩ = some (.int .i64 E.src)) (first | exact ⟨z1, x0, x1, x2, x3, x4, x5, x6, x7, x8⟩ | exact ⟨q5d.o1, q5d.x9⟩ | exact ⟨qa.o1, qa.x9⟩ | exact ⟨qb.o1, qb.x9⟩ | exact ⟨qc.o1, qc.x9⟩ | exact ⟨qd.o1, qd.x9⟩)
      (first
        | (go_at_call 19; refine (HCE.out _ _ q5d).mono ?_; rintro e1 wa ⟨rfl, c1, hpc, qa⟩)
        | (go_at_call 19; refine (HCE.out _ _ qb).mono ?_; rintro e1 wc ⟨rfl, c1, hpc, qc⟩)
        | (go_at_call 20; refine (HDE.out _ _ q5d).mono ?_; rintro e1 wb ⟨rfl, qb⟩)
        | (go_at_call 20; refine (HDE.out _ _ qa).mono ?_; rintro e1 wd ⟨rfl, qd⟩))
    all_goals
      have HPC := Lib.hid (HSP.out c1 hpc)
      clear hpc
      go_wp2_with fail
      apply HK.out
      first
        | exact ⟨_, _, qd.drop, HPC.out.1, HPC.out.2.1, HPC.out.2.2⟩
        | exact ⟨_, _, qc.drop, HPC.out.1, HPC.out.2.1, HPC.out.2.2⟩

end Go.Proofs.YtibbfihnhlgkeaaGreat

/- CachePlays: the walk. -/
namespace Go.Proofs.YtibbfihnhlgkeaaGreat
open Go.RowKit Go.Maps Go.WideMaps
open NM (Bs bs ofBs)
open CM (It C)

set_option maxRecDepth 10000 in
set_option maxHeartbeats 40000000 in
theorem plays_w (capn : Int) (a : Option Addr) (len cap : Nat) (w : World) (hl : len ≤ cap) (hc : cap ≤ maxLen) (ho : OpsC w a len) :
    Calls Tryz.prog 3 #[.int .i64 capn, .slice a len cap] w fun e w' => e = .returned (.bool true) ∧ Touch [] w w' := by
  have HO := Lib.hid ho
  have hlen : (len : Int) ≤ 9223372036854775807 := by unfold maxLen at hc; omega
  have HLEN := Lib.hid hlen
  obtain ⟨m, hm⟩ : ∃ m, m = min (max capn 1) 100000 := ⟨_, rfl⟩
  have HM := Lib.hid (show 1 ≤ m ∧ m ≤ 100000 by omega)
  have HME := Lib.hid hm
  clear ho hl hc hlen hm
  go_enter Tryz.func3, Tryz.ntmps3
  go_wp2_with fail
  refine (awake_any _).mono ?_
  rintro e w1 ⟨rfl, T1⟩
  have hnw := onew w w1 T1 capn
  rw [← HME.out] at hnw
  have HNW := Lib.hid hnw
  have HT1 := Lib.hid T1
  clear T1 hnw
  go_wp2_with fail
  refine HNW.out.mono ?_
  rintro e w2 ⟨B, rfl, O2, T2⟩
  have hdn := dnew_any w2 capn
  rw [← HME.out] at hdn
  have HDN := Lib.hid hdn
  have hT2 := HT1.out.trans T2 (by simp)
  have HO2 := Lib.hid (And.intro O2 hT2)
  clear O2 T2 HNW hdn hT2
  go_wp2_with fail
  refine HDN.out.mono ?_
  rintro e w3 ⟨rfl, hw3⟩
  obtain ⟨D, hD⟩ : ∃ D, D = w2.heap.size := ⟨_, rfl⟩
  have HST := Lib.hid (show PSt w w3 B ⟨m, 0, []⟩ D m [] 0 [] [] from by
    have t3 : Touch [] w2 w3 := by rw [hw3]; exact (Touch.refl [] w2).alloc _
    refine ⟨⟨HO2.out.1.quiet t3, HO2.out.2.trans t3 (by simp), ⟨.slice none 0 0, by rw [hw3, hD]; exact DCa.start w2 w.heap.size HO2.out.2.size m, by simp⟩, by simp, by simp⟩, CM.Sim.start m, rfl, Int.le_refl _⟩)
  rw [← hD]
  clear hw3 hD HDN HO2
  go_upto_block 0 with (fail)
  go_cut [8] (fun _ wx => ∃ (i : Nat) (c : C) (L : List CM.E), PSt w wx B c D m L i [] [] ∧ i ≤ 80)
  case first =>
    go_wp2_with fail
    go_loopw [8] (fun s8 wr => ∃ (i : Nat) (c : C) (L : List CM.E), s8 = .int .i64 (i : Int) ∧ i ≤ 80 ∧ i ≤ len ∧ PSt w wr B c D m L i [] []) (fun s8 _ => 80 - (intOf s8).toNat)
    case atStart => exact ⟨0, _, _, rfl, by omega, by omega, HST.out⟩
    case round =>
      obtain ⟨i, c, L, rfl, hi80, hil, hst⟩ := hrel
      obtain ⟨wo, rfl⟩ : ∃ wo, wo = wr := ⟨_, rfl⟩
      have HS := Lib.hid hst
      clear hst HST
      by_cases hlt : i < len
      · by_cases h80 : i < 80
        · have hltI : (i : Int) < (len : Int) := by omega
          have h80I : (i : Int) < 80 := by omega
          obtain ⟨blk, off, kd, nw, N, e0, rv0, rfl, hcells, harg⟩ := HO.out i hlt
          have hcells2 : ∀ j, j < 12 → w.cell? ⟨blk, off + i * 12 + j, none⟩ = (opV kd nw N e0 rv0)[j]? := fun j hj => by rw [Nat.add_assoc]; exact hcells j hj
          have HRG := Lib.hid (op_range hcells2 HS.out.q.t)
          obtain ⟨ra, rc, hra, _⟩ : ∃ ra rc, rv0 = .slice ra e0.recs.length rc ∧ True := by
            obtain ⟨ra, rc, h, _⟩ := harg.recs
            exact ⟨ra, rc, h, trivial⟩
          subst hra
          have HARG := Lib.hid harg
          have HL := Lib.hid (And.intro hlt h80)
          have HB0 := Lib.hid (Blk.new wo 33 zeroO)
          obtain ⟨w3, hw3⟩ : ∃ W, W = (wo.alloc (.cells zeroO 33)).setRow wo.heap.size (opV kd nw N e0 (.slice ra e0.recs.length rc)) := ⟨_, rfl⟩
          have HW3 := Lib.hid hw3
          clear hcells hcells2 harg hlt h80 hi80 hil hw3
          go_upto_region 10 with (first
            | (refine wpList_load_mid rfl 33 (.tmp 47) rfl blk (off + i * 12) rfl _ _ HRG.out Tryz.underlying33 rfl (by kernel_rfl) ?_)
            | (refine wpList_store_rowTo rfl 33 (.tmp 9) (.tmp 48) rfl rfl wo.heap.size (opV kd nw N e0 (.slice ra e0.recs.length rc)) rfl rfl 33 zeroO HB0.out (by kernel_rfl) rfl (opV_cells _ _ _ _ _ _ _) ?_; rw [← HW3.out]))
          obtain ⟨E, hE⟩ : ∃ E, E = smallE e0 := ⟨_, rfl⟩
          have HSM := Lib.hid (fun W (T : Touch [] wo W) => small_in7 w e0 _ HARG.out W (HS.out.q.t.trans T (by simp)))
          have HF := Lib.hid (show DOk E ∧ E.recs.length ≤ 70 ∧ E.name.size ≤ 300 by
            rw [hE]
            exact ⟨⟨smallE_fits e0, HARG.out.ty, HARG.out.cls⟩, smallE_len e0, (smallE_size e0).1⟩)
          rw [← hE] at HSM
          have T3 : Touch [] wo w3 := by rw [HW3.out]; exact ((Touch.refl [] wo).alloc _).row _ _ (.inr (Nat.le_refl _))
          have hO3 : Blk w3 wo.heap.size 33 (opV kd nw N e0 (.slice ra e0.recs.length rc)) := by rw [HW3.out]; exact HB0.out.row _
          obtain ⟨O, hOe⟩ : ∃ O, O = wo.heap.size := ⟨_, rfl⟩
          rw [← hOe] at hO3 ⊢
          have HQ3 := Lib.hid (HS.out.q.addO T3 hO3)
          have HT3 := Lib.hid T3
          have HR3 := Lib.hid (show w3.rangeAt O 3 (entV e0 (.slice ra e0.recs.length rc)).toList from fun j v hv => by
            have hc : w3.cell? ⟨O, 3 + j, none⟩ = (opV kd nw N e0 (.slice ra e0.recs.length rc))[3 + j]? := hO3.cell (3 + j)
            rw [hc]
            match j, hv with
            | 0, hv => exact hv
            | 1, hv => exact hv
            | 2, hv => exact hv
            | 3, hv => exact hv
            | 4, hv => exact hv
            | 5, hv => exact hv
            | 6, hv => exact hv
            | 7, hv => exact hv
            | 8, hv => exact hv)
          clear hE T3 hO3 hOe HARG HRG HB0 HW3
          go_wp2_with (refine wpList_load_mid rfl 31 (.tmp 49) rfl O 3 rfl _ _ HR3.out Tryz.underlying31 rfl (by kernel_rfl) ?_)
          refine (HSM.out w3 HT3.out).mono ?_
          rintro e w4 ⟨a4, l4, rfl, hown4, T4⟩
          have HB4 := Lib.hid (Blk.new w4 31 zeroE)
          obtain ⟨w5, hw5⟩ : ∃ W, W = (w4.alloc (.cells zeroE 31)).setRow w4.heap.size (entV E (.slice a4 E.recs.length l4)) := ⟨_, rfl⟩
          have t5 : Touch [] w4 w5 := by rw [hw5]; exact laid_t _ _
          have hD5 : Blk w5 w4.heap.size 31 (entV E (.slice a4 E.recs.length l4)) := by rw [hw5]; exact HB4.out.row _
          have hQ5 := (HQ3.out.quiet T4).addX t5 hD5 (Nat.le_refl _) (trow_base hown4 (Nat.zero_le _))
          have HW5 := Lib.hid hw5
          clear hown4 T4 t5 hw5 hD5
          go_upto_region 11 with (refine wpList_store_rowTo rfl 31 (.tmp 10) (.tmp 51) rfl rfl w4.heap.size (entV E (.slice a4 E.recs.length l4)) rfl rfl 31 zeroE HB4.out (by kernel_rfl) rfl (entV_cells _ _ _ _) ?_; rw [← HW5.out])
          obtain ⟨X, hX⟩ : ∃ X, X = w4.heap.size := ⟨_, rfl⟩
          rw [← hX] at hQ5 ⊢
          have HP5 := Lib.hid (show PSt w w5 B c D m L i [(O, opV kd nw N e0 (.slice ra e0.recs.length rc))] [(X, E, .slice a4 E.recs.length l4)] from ⟨hQ5, HS.out.s, HS.out.most, HS.out.uses⟩)
          have y0 : w5.cell? ⟨O, 0, none⟩ = some (.int .i64 kd) := (hQ5.os _ (List.mem_singleton.2 rfl)).cell 0
          have hk1 : -10 < kd.tmod 10 ∧ kd.tmod 10 < 10 := ⟨Int.lt_tmod_of_pos kd (by decide), Int.tmod_lt_of_pos kd (by decide)⟩
          have HK1 := Lib.hid hk1
          clear hX HB4 HW5 HR3 HT3 HSM HQ3 hQ5 hk1
          go_upto_region 12 with (fail)
          obtain ⟨kt, hkt⟩ : ∃ q, q = kd.tmod 10 := ⟨_, rfl⟩
          rw [← hkt] at HK1 ⊢
          clear hkt y0
          go_upto_if 56 with (fail)
          go_cut [11] from 35 to 208 (fun s wx => (∃ k : Int, s = .int .i64 k ∧ 0 ≤ k ∧ k ≤ 9) ∧ wx = w5)
          case first =>
            by_cases hneg : kt < 0
            · have hw : wrap64 (kt + 10) = kt + 10 := IntWalk.wrap64_in _ (by have := HK1.out; omega)
              go_wp2_with fail
              go_meet
              exact ⟨⟨kt + 10, by first | rfl | (rw [hw]), by have := HK1.out; omega, by omega⟩, rfl⟩
            · go_wp2_with fail
              go_meet
              exact ⟨⟨kt, rfl, by omega, by have := HK1.out; omega⟩, rfl⟩
          case rest =>
          obtain ⟨⟨k, rfl, hk0, hk9⟩, hw⟩ := hcut
          obtain rfl := hw.symm
          have HK := Lib.hid (And.intro hk0 hk9)
          clear hk0 hk9 HK1
          go_upto_block 2 with (fail)
          refine plays_sw w w5 B D O X k HK.out c m HM.out L i HL.out.2 kd nw N e0 _ E HF.out a4 l4 HP5.out ?_
          intro z13 z14 z15 z16 z17 z18 z19 z20 z21 z22 z60 z61 z62 z63 z64 z65 z66 z67 z68 z69 z70 z71 z72 z73 z74 z75 z76 z77 z78 z79 z80 z81 z82 z83 z84 z85 z86 z87 z88 z89 z90 z91 z92 z93 z94 z95 z96 z97 z98 z99 z100 z101 z102 z103 z104 z105 z106 z107 z108 z109 z110 z111 z112 z113 z114 z115 z116 z117 z118 z119 z120 z121 z122 z123 z124 z125 z126 z127 z128 z129 z130 z131 z132 z133 z134 z135 z136 z137 z138 z139 z140 z141 z142 z143 z144 z145 z146 z147 z148 z149 z150 z151 z152 z153 z154 z155 z156 z157 z158 z159 z160 z161 z162 z163 z164 z165 z166 z167 z168 z169 z170 z171 z172 z173 z174 z175 z176 wx ⟨c', L', hst⟩
          obtain ⟨t, hcn, hdn⟩ := qnext hst.q hst.s
          have HST2 := Lib.hid hst
          have HCN := Lib.hid hcn
          have HDN := Lib.hid hdn
          clear hcn hdn hst HP5 HK
          obtain ⟨nl, hnl⟩ : ∃ q, q = L'.length := ⟨_, rfl⟩
          rw [← hnl] at HCN HDN
          have HNL := Lib.hid hnl
          clear hnl
          obtain ⟨nz, hnz⟩ : ∃ q : Bool, q = decide (0 < nl) := ⟨_, rfl⟩
          rw [← hnz] at HCN HDN
          clear hnz
          go_wp2_with fail
          refine HCN.out.mono ?_
          rintro e w6 ⟨rfl, T6⟩
          have HT6 := Lib.hid T6
          clear T6
          go_wp2_with fail
          refine (HDN.out w6 HT6.out).mono ?_
          rintro e w7 ⟨rfl, T7⟩
          have hst7 := HST2.out.quiet (HT6.out.trans T7 (by simp))
          obtain ⟨v, hdc, _⟩ := hst7.q.dc
          obtain ⟨ad, cd, rfl⟩ := hdc.shape
          have z1 : w7.cell? ⟨D, 1, none⟩ = some (.slice ad nl cd) := by rw [HNL.out]; exact hdc.blk.cell 1
          have HLC := Lib.hid (fun W (T : Touch [] w7 W) => olen w W B c' (hst7.q.oc.quiet T))
          have hsl := hst7.s.len
          rw [← hsl, ← HNL.out] at HLC
          have HS7 := Lib.hid hst7
          clear T7 hdc hst7 hsl HCN HDN
          have hwr : wrap64 ((i : Int) + 1) = (i : Int) + 1 := IntWalk.wrap64_in _ (by have := HL.out; omega)
          go_upto_region 36 with (fail)
          go_cut [208] from 187 to 208 (fun s wx => s = .bool false ∧ Touch [] w7 wx)
          case first =>
            go_quiet ((go_at_call 23; exact Calls.quiet_of_same (HLC.out _ (by first | exact Touch.refl _ _ | exact Touch.drewN [] w7 _))))
            go_wp2_with fail
            go_meet
            exact ⟨by first | rfl | simp, Touch.drewN [] w7 nq⟩
          case rest =>
            obtain ⟨rfl, T8⟩ := hcut
            obtain ⟨w8, hw8⟩ : ∃ q, q = wc := ⟨_, rfl⟩
            rw [← hw8] at T8 ⊢
            have HS8 := Lib.hid ((HS7.out.quiet T8).q.drop)
            clear T8 hw8 z1 HLC
            go_wp2_with fail
            go_roundw
            case rel => exact ⟨i + 1, c', L', by first | rfl | (rw [hwr]; rfl), HL.out.2, HL.out.1, HS8.out, HS7.out.s, HS7.out.most, HS7.out.uses⟩
            case measure => exact lt_sub_of (x := i + 1) (i := i) (by first | rfl | (rw [hwr]; rfl)) rfl (by have := HL.out.2; omega)
        · have h80I : (80 : Int) ≤ (i : Int) := by omega
          have hltI : (i : Int) < (len : Int) := by omega
          have HX := Lib.hid hi80
          clear hlt h80 hi80 hil
          go_wp2_with fail
          go_meet
          exact ⟨i, c, L, HS.out, HX.out⟩
      · have hltI : (len : Int) ≤ (i : Int) := by omega
        have HX := Lib.hid hi80
        clear hlt hi80 hil
        go_wp2_with fail
        go_meet
        exact ⟨i, c, L, HS.out, HX.out⟩
  case rest =>
    obtain ⟨i, c, L, hst, hi80⟩ := hcut
    obtain ⟨wo, hwo⟩ : ∃ q, q = wc := ⟨_, rfl⟩
    rw [← hwo] at hst ⊢
    have HP := Lib.hid hst
    have q5 := hst.q
    obtain ⟨v, hdc, _⟩ := q5.dc
    obtain ⟨ad, cd, rfl⟩ := hdc.shape
    have hsml := hst.small HM.out
    obtain ⟨nL, hnL⟩ : ∃ q, q = L.length := ⟨_, rfl⟩
    have z1 : wo.cell? ⟨D, 1, none⟩ = some (.slice ad nL cd) := by rw [hnL]; exact hdc.blk.cell 1
    have HALL := Lib.hid (fun W (T : Touch [] wo W) => qall (q5.quiet T) hst.s)
    have HSAME := Lib.hid (fun W a1 c1 (T : Touch [] wo W) (h1 : REnt W a1 L) => sameall_any W a1 ad c1 cd L h1 (hdc.rent.touch T) (by have := hsml.1; omega) (fun e he => by have := hsml.2.1 e he; omega))
    rw [← hnL] at HALL HSAME
    have TD := Touch.drewN [] wo 1
    have HZ := Lib.hid (fun W (T : Touch [] wo W) => touch_cell T z1 (by simp))
    clear hdc hsml hnL q5 hst hwo HST
    go_upto_region 38 with (fail)
    go_region_held3 (fun W => W.cell? ⟨D, 1, none⟩ = some (.slice ad nL cd)) (first | exact z1 | exact HZ.out _ TD | exact HZ.out _ ta | exact HZ.out _ tb)
      (first
        | (go_at_call 18; refine (HALL.out _ TD).mono ?_; rintro e1 wa ⟨aa, ca, rfl, ra, ta'⟩; have ta := TD.trans ta' (by simp))
        | (go_at_call 17; refine (HSAME.out _ _ _ ta ra).mono ?_; rintro e1 wb ⟨rfl, tb'⟩; have tb := ta.trans tb' (by simp)))
    all_goals
      clear HALL HSAME HZ
      go_wp2_with fail
      go_ret
      exact ⟨rfl, HP.out.q.t.trans tb (by simp)⟩
theorem plays_walk (capn : Int) (a : Option Addr) (len cap : Nat) (w : World) (_ : (Lit.int .i64 capn).wf = true) (h : Rd w 22 [.slice a len cap]) :
    Calls Tryz.prog 3 #[.int .i64 capn, .slice a len cap] w fun e w' => e = .returned (.bool true) ∧ Touch [] w w' := by
  obtain ⟨hl, hc, ho⟩ := h.cops
  exact plays_w capn a len cap w hl hc ho
end Go.Proofs.YtibbfihnhlgkeaaGreat

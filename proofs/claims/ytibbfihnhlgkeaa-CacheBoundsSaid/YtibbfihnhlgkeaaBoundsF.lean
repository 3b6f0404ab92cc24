import Derived.Test.YtibbfihnhlgkeaaCacheEB
import Derived.Deep.DeepCutAuto
import Derived.Maps.AppendAt
import Derived.Deep.RegionWith
import Derived.Deep.QuietTactic
import Derived.BigQuiet

/- CacheBounds: what is told was put: the two loops as a declaration of its own. -/
namespace Go.Proofs.Ytibbfihnhlgkeaa
open Go.RowKit Go.Maps Go.WideMaps
open NM (Bs bs ofBs)
open CM (It C)

/-- a block of a code -/
def blockOf (n : Nat) : Code → Option Code
  | .block k c => if k = n then some (.block k c) else blockOf n c
  | .loop c => blockOf n c
  | .seq a b => match blockOf n a with
    | some c => some c
    | none => blockOf n b
  | .scope c => blockOf n c
  | .cond _ a b => match blockOf n a with
    | some c => some c
    | none => blockOf n b
  | _ => none
noncomputable def findCode : Code := ((Try.f7.body.bind (blockOf 3)).getD .skip)
set_option maxRecDepth 100000 in
set_option maxHeartbeats 40000000 in
theorem bounds_find (w w7 : World) (B D2 : Nat) (m : Int) (i1 : Nat) (c' : C) (P : List (CM.E × Value)) (F : List (ByteArray × Int × Nat)) (np nf : Nat) (ap az ae aw : Option Addr) (cp cz ce cw : Nat) (A : CM.E) (a6 : Option Addr) (l6 : Nat) (k0 : Nat)
    (hbn : BN w w7 B m i1 c' P F (.slice ap np cp) (.slice az nf cz) (.slice ae nf ce) (.slice aw nf cw)) (hn : np = P.length ∧ nf = F.length) (hD7 : Blk w7 D2 25 (entV A (.slice a6 A.recs.length l6))) (hR7 : w7.ownsRow 0 68 5 (.slice a6 A.recs.length l6) A.recs.length (flat A.recs))
    (hseen : k0 < P.length ∧ (∀ p, P[k0]? = some p → p.1 = A) ∧ ∀ f ∈ F, flOf A k0 f = false) (han : A.name.size ≤ 1099511627776) (hq : np ≤ 80 ∧ nf ≤ 80) {v0 v1 v2 v3 v4 v5 v6 v7 v8 v13 v14 v15 v17 v20 v21 v22 v23 v24 v25 v26 v27 v28 v29 v30 v31 v32 v33 v34 v35 v36 v37 v38 v39 v40 v41 v42 v43 v44 v45 v46 v47 v48 v49 v50 v51 v52 v53 v54 v55 v56 v57 v58 v59 v60 v61 v62 v63 v64 v65 v66 v67 v68 v69 v70 v71 v72 v73 v74 v75 v76 v77 v78 v79 v80 v81 v82 v83 v84 v85 v86 v87 v88 v89 v90 v91 v92 v93 v94 v95 v96 v97 v98 v99 v100 v101 v102 v103 v104 v105 v106 v107 v108 v109 v110 v111 v112 v113 v114 v115 v116 v117 v118 v119 v120 v121 v122 v123 v124 v125 v126 v127 v128 v129 v130 v131 v132 v133 v134 v135 v136 v137 v138 v139 v140 v141 v142 v143 v144 v145 v146 v147 v148 v149 v150 v151 v152 v153 v154 v155 v156 v157 v158 v159 v160 v161 v162 v163 v164 v165 v166 v167 v168 v169 v170 v171 v172 v173 v174 v175 v176 v177 v178 v179 v180 : Value} {K : Act → World → Prop} {Q' : Exit → Act → World → Prop}
    (hK : ∀ (z19 z20 z21 z22 z23 z114 z115 z116 z117 z118 z119 z120 z121 z122 z123 z124 z125 z126 z127 z128 z129 z130 z131 z132 z133 z134 z135 z136 z137 z138 z139 z140 z141 z142 z143 z144 z145 z146 z147 z148 z149 z150 z151 z152 z153 z154 z155 z156 z157 z158 z159 z160 z161 z162 z163 z164 z165 z166 z167 : Value) (wx : World), Touch [] w7 wx → K ⟨#[v0, v1, v2, v3, v4, v5, v6, v7, v8, .slice ap np cp, .slice az nf cz, .slice ae nf ce, .slice aw nf cw, v13, v14, v15, .pointer (some ⟨D2, 0, none⟩), v17, .bool true, z19, z20, z21, z22, z23, v24, v25, v26, v27, v28, v29, v30, v31, v32, v33, v34, v35, v36, v37, v38, v39, v40, v41, v42, v43, v44, v45, v46, v47, v48, v49, v50, v51, v52, v53, v54, v55, v56, v57, v58, v59, v60, v61, v62, v63, v64, v65, v66, v67, v68, v69, v70, v71, v72, v73, v74, v75, v76, v77, v78, v79, v80, v81, v82, v83, v84, v85, v86, v87, v88, v89, v90, v91, v92, v93, v94, v95, v96, v97, v98, v99, v100, v101, v102, v103, v104, v105, v106, v107, v108, v109, v110, v111, v112, v113, z114, z115, z116, z117, z118, z119, z120, z121, z122, z123, z124, z125, z126, z127, z128, z129, z130, z131, z132, z133, z134, z135, z136, z137, z138, z139, z140, z141, z142, z143, z144, z145, z146, z147, z148, z149, z150, z151, z152, z153, z154, z155, z156, z157, z158, z159, z160, z161, z162, z163, z164, z165, z166, z167, v168, v169, v170, v171, v172, v173, v174, v175, v176, v177, v178, v179, v180], []⟩ wx) :
    Code.wp Try.prog findCode (Exit.then K Q') ⟨#[v0, v1, v2, v3, v4, v5, v6, v7, v8, .slice ap np cp, .slice az nf cz, .slice ae nf ce, .slice aw nf cw, v13, v14, v15, .pointer (some ⟨D2, 0, none⟩), v17, .bool false, .int .i64 0, v20, v21, v22, v23, v24, v25, v26, v27, v28, v29, v30, v31, v32, v33, v34, v35, v36, v37, v38, v39, v40, v41, v42, v43, v44, v45, v46, v47, v48, v49, v50, v51, v52, v53, v54, v55, v56, v57, v58, v59, v60, v61, v62, v63, v64, v65, v66, v67, v68, v69, v70, v71, v72, v73, v74, v75, v76, v77, v78, v79, v80, v81, v82, v83, v84, v85, v86, v87, v88, v89, v90, v91, v92, v93, v94, v95, v96, v97, v98, v99, v100, v101, v102, v103, v104, v105, v106, v107, v108, v109, v110, v111, v112, v113, v114, v115, v116, v117, v118, v119, v120, v121, v122, v123, v124, v125, v126, v127, v128, v129, v130, v131, v132, v133, v134, v135, v136, v137, v138, v139, v140, v141, v142, v143, v144, v145, v146, v147, v148, v149, v150, v151, v152, v153, v154, v155, v156, v157, v158, v159, v160, v161, v162, v163, v164, v165, v166, v167, v168, v169, v170, v171, v172, v173, v174, v175, v176, v177, v178, v179, v180], []⟩ w7 := by
  have HK := Lib.hid hK
  have HBN := Lib.hid hbn
  have HN := Lib.hid hn
  have HD7 := Lib.hid hD7
  have HR7 := Lib.hid hR7
  have HSEEN := Lib.hid hseen
  have HAN := Lib.hid han
  have HQ := Lib.hid hq
  clear hK hbn hn hD7 hR7 hseen han hq
  conv => arg 2; whnf
  go_wp2_with fail
  go_loopw [18, 19] (fun s18 s19 wr => ∃ (kk : Nat) (b : Bool), s18 = .bool b ∧ s19 = .int .i64 (kk : Int) ∧ kk ≤ np ∧ (k0 < kk → b = true) ∧ Touch [] w7 wr) (fun _ s19 _ => np - (intOf s19).toNat)
  case atStart => exact ⟨0, false, rfl, rfl, Nat.zero_le _, fun h => by omega, Touch.refl [] w7⟩
  case round =>
    obtain ⟨kk, b, rfl, rfl, hkk, hb, T⟩ := hrel
    obtain ⟨wx, rfl⟩ : ∃ wx, wx = wr := ⟨_, rfl⟩
    have HT8 := Lib.hid T
    have HKB := Lib.hid (And.intro hkk hb)
    clear T hb
    by_cases hlt : kk < np
    · have hltK : (kk : Int) < (np : Int) := by omega
      obtain ⟨gp, rfl, hcp⟩ := row_at (HBN.out.quiet HT8.out).br.rp (by omega)
      have hkP : kk < P.length := by have := HN.out.1; omega
      obtain ⟨p, hp⟩ : ∃ p, p = P[kk] := ⟨_, rfl⟩
      have hpm : p ∈ P := by rw [hp]; exact List.getElem_mem hkP
      have hrr := (HBN.out.quiet HT8.out).br.rr p hpm
      have hpl := HBN.out.pl p hpm
      have hcp2 : ∀ j, j < 9 → ∀ u, (entV p.1 p.2)[j]? = some u → wx.cell? ⟨gp, kk * 9 + j, none⟩ = some u := fun j hj u hu => hcp (kk * 9 + j) u (by rw [flatP_get P kk hkP j hj, ← hp, Array.getElem?_toList]; exact hu)
      have HPE := Lib.hid (show P[kk]? = some p by rw [List.getElem?_eq_getElem hkP, hp])
      obtain ⟨pe, prv⟩ := p
      have hrr : wx.ownsRow 0 68 5 prv pe.recs.length (flat pe.recs) := hrr
      obtain ⟨ap2, cp2, hprv⟩ := own_shape hrr
      subst hprv
      have HSA := Lib.hid (fun W (t : Touch [] wx W) => same_any W pe A (.slice ap2 pe.recs.length cp2) (.slice a6 A.recs.length l6) ((RecsAt.of_row hrr).1.touch0 t) ((RecsAt.of_row HR7.out).1.touch0 (HT8.out.trans t (by simp))) (by have := hpl.1; simp only at this; omega))
      obtain ⟨x0, x1, x2, x3, x4, x5, x6, x7, x8⟩ := entCells (HT8.out.blk HD7.out (by simp))
      have y0 : wx.cell? ⟨gp, kk * 9, none⟩ = some (.int .i64 pe.kind) := hcp2 0 (by decide) _ rfl
      have y1 : wx.cell? ⟨gp, kk * 9 + 1, none⟩ = some (.string pe.name) := hcp2 1 (by decide) _ rfl
      have y2 : wx.cell? ⟨gp, kk * 9 + 2, none⟩ = some (.int .u16 pe.type) := hcp2 2 (by decide) _ rfl
      have y3 : wx.cell? ⟨gp, kk * 9 + 3, none⟩ = some (.int .u16 pe.cls) := hcp2 3 (by decide) _ rfl
      have y4 : wx.cell? ⟨gp, kk * 9 + 4, none⟩ = some (.slice ap2 pe.recs.length cp2) := hcp2 4 (by decide) _ rfl
      have y5 : wx.cell? ⟨gp, kk * 9 + 5, none⟩ = some (.int .i64 pe.til) := hcp2 5 (by decide) _ rfl
      have y6 : wx.cell? ⟨gp, kk * 9 + 6, none⟩ = some (.int .i64 pe.rank) := hcp2 6 (by decide) _ rfl
      have y7 : wx.cell? ⟨gp, kk * 9 + 7, none⟩ = some (.int .i64 pe.epoch) := hcp2 7 (by decide) _ rfl
      have y8 : wx.cell? ⟨gp, kk * 9 + 8, none⟩ = some (.int .i64 pe.src) := hcp2 8 (by decide) _ rfl
      have HLK := Lib.hid hlt
      have tt := Touch.refl [] wx
      clear hcp hkP hp hpm hrr hpl hcp2 hlt hkk
      go_upto_region 40 with (fail)
      go_cut [20] from 114 to 167 (fun s wq => ∃ rs : Bool, s = .bool rs ∧ (rs = true ↔ pe = A) ∧ Touch [] w7 wq)
      case first =>
        go_still_tail 5, (by kernel_rfl)
        change wpList _ _ _ _ _ wx.drew
        clear x0 x1 x2 x3 x4 x5 x6 x7 x8 y0 y1 y2 y3 y4 y5 y6 y7 y8
        go_wp2_with fail
        refine (HSA.out _ tt.drew_).mono ?_
        rintro e wq ⟨⟨rs, rfl, hrs⟩, tq⟩
        have HRS := Lib.hid hrs
        clear hrs
        go_wp2_with fail
        go_meet
        exact ⟨_, rfl, HRS.out, HT8.out.trans (tt.drew_.trans tq (by simp)) (by simp)⟩
      case rest =>
        obtain ⟨rs, rfl, hrs, T9⟩ := hcut
        obtain ⟨w9, hw9⟩ : ∃ wq, wq = wc := ⟨_, rfl⟩
        have HRS := Lib.hid hrs
        have HT9 := Lib.hid T9
        clear hrs T9 tt x0 x1 x2 x3 x4 x5 x6 x7 x8 y0 y1 y2 y3 y4 y5 y6 y7 y8 HSA
        go_upto_region 42 with (fail)
        go_wp2_with fail
        go_loopw [21, 22] (fun s21 s22 wr => ∃ j : Nat, s21 = .bool ((F.take j).any (flOf A kk)) ∧ s22 = .int .i64 (j : Int) ∧ j ≤ nf ∧ Touch [] w7 wr) (fun _ s22 _ => nf - (intOf s22).toNat)
        case atStart => exact ⟨0, by simp, rfl, Nat.zero_le _, HT9.out⟩
        case round =>
          obtain ⟨j, rfl, rfl, hj, T⟩ := hrel
          obtain ⟨wy, rfl⟩ : ∃ wy, wy = wr := ⟨_, rfl⟩
          have HTy := Lib.hid T
          clear T
          by_cases hjl : j < nf
          · have hjF : j < F.length := by have := HN.out.2; omega
            have hby := (HBN.out.quiet HTy.out).br
            obtain ⟨gz, hgz, cz1⟩ := row_at hby.rz (by omega)
            obtain ⟨ge, hge, ce1⟩ := row_at hby.re (by omega)
            obtain ⟨gw, hgw, cw1⟩ := row_at hby.rw (by omega)
            subst hgz hge hgw
            have hANY := any_succ F (flOf A kk) j hjF
            obtain ⟨f, hf⟩ : ∃ f, f = F[j] := ⟨_, rfl⟩
            have hzs := HBN.out.zs f (by rw [hf]; exact List.getElem_mem hjF)
            have q1 := cz1 j (.string f.1) (by rw [List.getElem?_map, List.getElem?_eq_getElem hjF, hf]; rfl)
            have q2 := ce1 j (.int .i64 f.2.1) (by rw [List.getElem?_map, List.getElem?_eq_getElem hjF, hf]; rfl)
            have q3 := cw1 j (.int .i64 (f.2.2 : Int)) (by rw [List.getElem?_map, List.getElem?_eq_getElem hjF, hf]; rfl)
            rw [← hf] at hANY
            clear hf cz1 ce1 cw1 hby hjF
            obtain ⟨z, ep, wn⟩ := f
            simp only at q1 q2 q3 hzs
            obtain ⟨b0, hb0⟩ : ∃ b0, b0 = (F.take j).any (flOf A kk) := ⟨_, rfl⟩
            rw [← hb0] at hANY
            rw [← hb0]
            have HANY := Lib.hid hANY
            have HU := Lib.hid (fun W => runder_any W A.name z HAN.out (by omega))
            obtain ⟨u, hu⟩ : ∃ u, u = NM.under (bs A.name) (bs z) := ⟨_, rfl⟩
            rw [← hu] at HU
            have HUE := Lib.hid hu
            have d1 : wy.cell? ⟨D2, 1, none⟩ = some (.string A.name) := (HTy.out.blk HD7.out (by simp)).cell 1
            have hjI : (j : Int) < (nf : Int) := by omega
            have HQ2 := Lib.hid (And.intro q2 q3)
            have HJL := Lib.hid hjl
            have tt := Touch.refl [] wy
            clear hANY hb0 hu hjl hj hzs q2 q3
            go_upto_region 45 with (fail)
            go_cut [23] from 126 to 159 (fun s wq => s = .bool u ∧ Touch [] wy wq)
            case first =>
              go_still_tail 6, (by kernel_rfl)
              change wpList _ _ _ _ _ wy.drew
              go_wp2_with fail
              refine (HU.out _).mono ?_
              rintro e wq ⟨rfl, tq⟩
              go_wp2_with fail
              go_meet
              exact ⟨rfl, tt.drew_.trans tq (by simp)⟩
            case rest =>
              obtain ⟨rfl, T10⟩ := hcut
              have d7 : wc.cell? ⟨D2, 7, none⟩ = some (.int .i64 A.epoch) := ((HTy.out.trans T10 (by simp)).blk HD7.out (by simp)).cell 7
              have e2 : wc.cell? ⟨ge, j, none⟩ = some (.int .i64 ep) := touch_cell T10 HQ2.out.1 (by simp)
              have w2' : wc.cell? ⟨gw, j, none⟩ = some (.int .i64 (wn : Int)) := touch_cell T10 HQ2.out.2 (by simp)
              have HTc := Lib.hid (HTy.out.trans T10 (by simp))
              have hwj : wrap64 ((j : Int) + 1) = (j : Int) + 1 := IntWalk.wrap64_in _ (by have := HJL.out; have := HQ.out; omega)
              clear T10 q1 d1 tt
              go_upto_region 46 with (fail)
              cases b0 with
              | true =>
                go_quiet (fail)
                go_wp2_with fail
                go_roundw
                case rel => exact ⟨j + 1, by rw [HANY.out]; rfl, by first | rfl | (rw [hwj]; rfl), HJL.out, by first | exact HTc.out | exact Touch.drewN_ HTc.out _ | exact Touch.drew_ HTc.out⟩
                case measure => exact lt_sub_of (x := j + 1) (i := j) (by first | rfl | (rw [hwj]; rfl)) rfl (Nat.sub_lt_sub_left HJL.out (Nat.lt_succ_self j))
              | false =>
                cases u with
                | false =>
                  go_quiet (fail)
                  go_wp2_with fail
                  go_roundw
                  case rel => exact ⟨j + 1, by rw [HANY.out]; unfold flOf; rw [← HUE.out]; rfl, by first | rfl | (rw [hwj]; rfl), HJL.out, by first | exact HTc.out | exact Touch.drewN_ HTc.out _ | exact Touch.drew_ HTc.out⟩
                  case measure => exact lt_sub_of (x := j + 1) (i := j) (by first | rfl | (rw [hwj]; rfl)) rfl (Nat.sub_lt_sub_left HJL.out (Nat.lt_succ_self j))
                | true =>
                  by_cases h1 : A.epoch < ep
                  · by_cases h2 : (kk : Int) < (wn : Int)
                    · have HN2 := Lib.hid (show kk < wn by omega)
                      go_quiet (fail)
                      go_wp2_with fail
                      go_roundw
                      case rel => exact ⟨j + 1, by rw [HANY.out]; unfold flOf; rw [← HUE.out]; simp [h1, HN2.out], by first | rfl | (rw [hwj]; rfl), HJL.out, by first | exact HTc.out | exact Touch.drewN_ HTc.out _ | exact Touch.drew_ HTc.out⟩
                      case measure => exact lt_sub_of (x := j + 1) (i := j) (by first | rfl | (rw [hwj]; rfl)) rfl (Nat.sub_lt_sub_left HJL.out (Nat.lt_succ_self j))
                    · have HN2 := Lib.hid (show ¬ kk < wn by omega)
                      have h3 : decide ((kk : Int) < (wn : Int)) = false := decide_eq_false h2
                      go_quiet (fail)
                      go_wp2_with fail
                      go_roundw
                      case rel => exact ⟨j + 1, by rw [HANY.out]; unfold flOf; rw [← HUE.out]; simp [HN2.out], by first | rfl | (rw [hwj]; rfl), HJL.out, by first | exact HTc.out | exact Touch.drewN_ HTc.out _ | exact Touch.drew_ HTc.out⟩
                      case measure => exact lt_sub_of (x := j + 1) (i := j) (by first | rfl | (rw [hwj]; rfl)) rfl (Nat.sub_lt_sub_left HJL.out (Nat.lt_succ_self j))
                  · have h3 : decide (A.epoch < ep) = false := decide_eq_false h1
                    go_quiet (fail)
                    go_wp2_with fail
                    go_roundw
                    case rel => exact ⟨j + 1, by rw [HANY.out]; unfold flOf; rw [← HUE.out]; simp [h3], by first | rfl | (rw [hwj]; rfl), HJL.out, by first | exact HTc.out | exact Touch.drewN_ HTc.out _ | exact Touch.drew_ HTc.out⟩
                    case measure => exact lt_sub_of (x := j + 1) (i := j) (by first | rfl | (rw [hwj]; rfl)) rfl (Nat.sub_lt_sub_left HJL.out (Nat.lt_succ_self j))
          · have hje : j = nf := by omega
            have hjI : (nf : Int) ≤ (j : Int) := by omega
            obtain ⟨fb, hfb⟩ : ∃ fb, fb = (F.take j).any (flOf A kk) := ⟨_, rfl⟩
            rw [← hfb]
            have HEND := Lib.hid (show k0 < kk + 1 → b = true ∨ (rs = true ∧ fb = false) from fun hk => by
              by_cases hk2 : k0 < kk
              · exact .inl (HKB.out.2 hk2)
              · have hke : k0 = kk := by omega
                refine .inr ⟨HRS.out.2 ?_, ?_⟩
                · exact HSEEN.out.2.1 _ (by rw [hke]; exact HPE.out)
                · rw [hfb, List.any_eq_false]
                  intro f hf
                  have := HSEEN.out.2.2 f (List.mem_of_mem_take hf)
                  rw [hke] at this
                  simp [this])
            have hwk : wrap64 ((kk : Int) + 1) = (kk : Int) + 1 := IntWalk.wrap64_in _ (by have := HLK.out; have := HQ.out; omega)
            clear hfb hje hjl hj HKB HRS
            cases b with
            | true =>
              go_wp2_with fail
              go_roundw
              case rel => exact ⟨kk + 1, true, rfl, by first | rfl | (rw [hwk]; rfl), HLK.out, fun _ => rfl, HTy.out⟩
              case measure => exact lt_sub_of (x := kk + 1) (i := kk) (by first | rfl | (rw [hwk]; rfl)) rfl (Nat.sub_lt_sub_left HLK.out (Nat.lt_succ_self kk))
            | false =>
              cases rs with
              | false =>
                go_wp2_with fail
                go_roundw
                case rel => exact ⟨kk + 1, false, rfl, by first | rfl | (rw [hwk]; rfl), HLK.out, fun hk => (HEND.out hk).elim (fun h => by cases h) (fun h => by cases h.1), HTy.out⟩
                case measure => exact lt_sub_of (x := kk + 1) (i := kk) (by first | rfl | (rw [hwk]; rfl)) rfl (Nat.sub_lt_sub_left HLK.out (Nat.lt_succ_self kk))
              | true =>
                cases fb with
                | true =>
                  go_wp2_with fail
                  go_roundw
                  case rel => exact ⟨kk + 1, false, rfl, by first | rfl | (rw [hwk]; rfl), HLK.out, fun hk => (HEND.out hk).elim (fun h => by cases h) (fun h => by cases h.2), HTy.out⟩
                  case measure => exact lt_sub_of (x := kk + 1) (i := kk) (by first | rfl | (rw [hwk]; rfl)) rfl (Nat.sub_lt_sub_left HLK.out (Nat.lt_succ_self kk))
                | false =>
                  go_wp2_with fail
                  go_roundw
                  case rel => exact ⟨kk + 1, true, rfl, by first | rfl | (rw [hwk]; rfl), HLK.out, fun _ => rfl, HTy.out⟩
                  case measure => exact lt_sub_of (x := kk + 1) (i := kk) (by first | rfl | (rw [hwk]; rfl)) rfl (Nat.sub_lt_sub_left HLK.out (Nat.lt_succ_self kk))
    · have hbt : b = true := HKB.out.2 (by have := HSEEN.out.1; have := HN.out.1; omega)
      subst hbt
      have hge : (np : Int) ≤ (kk : Int) := by omega
      clear hlt hkk
      go_wp2_with fail
      apply HK.out
      exact HT8.out
end Go.Proofs.Ytibbfihnhlgkeaa

/- AtlasExact: a round's call, kind 5. -/
import Derived.Test.YtclmmfkbkaldlaaDoorExA0
import Derived.Deep.CutBlock
import Derived.Deep.DeepCutAuto
namespace Go.Proofs.YtclmmfkbkaldlaaDoor
open Go.RowKit
theorem keep14 {K : List Nat} {w wr : World} {ad : Nat → Addr} {g g2 cn : Nat} {ms1 ms2 S1 S2 : List Nat} {L : List (Nat × TypeId × Array Value)} (h : EI K w ad g g2 cn ms1 ms2 S1 S2 L wr) {b : Nat} {x0 x1 x2 x3 x4 : Value} (hm : (b, 51, #[x0, x1, x2, x3, x4]) ∈ L) :
    wr.cell? ⟨b, 1, none⟩ = some x1 ∧ wr.cell? ⟨b, 2, none⟩ = some x2 := by
  obtain ⟨_, y1, y2, _⟩ := h.act hm
  exact ⟨y1, y2⟩

set_option maxRecDepth 100000 in
set_option maxHeartbeats 4000000 in
theorem way5 {K : List Nat} {w W3 : World} {ad : Nat → Addr} {g g2 bX cn : Nat} {ms S1 S2 : List Nat} {kind node n : Int} {am aw : Nat} {i : Nat}
    (hk1 : ¬ kind = 1) (hk2 : ¬ kind = 2) (hk3 : ¬ kind = 3) (hk4 : ¬ kind = 4) (hall : ∀ k ∈ All18, k ∈ K) (h1 : 1 ∈ K) (h7 : 7 ∈ K) (ha : am < 4294967296) (hb : aw < 4294967296) (hi2 : i < 100) (hl : ms.length ≤ 1 + 40 * i)
    (D : Hid (EI K w ad g g2 cn ms ms S1 S2 [(bX, 51, #[.int .i64 kind, .int .u32 am, .int .u32 aw, .int .i64 node, .int .i64 n])] W3))
    (t0 t1 t2 t3 t4 t6 t8 t10 t11 t12 t13 t14 t15 t16 t17 t18 t19 t20 t21 t22 t23 t24 t25 t26 t27 t28 t29 t30 t31 t32 t33 t34 t35 t36 t37 t38 t39 t40 t41 t42 t43 t44 t45 t46 t47 t48 t49 t50 t51 t52 t53 t54 t55 t56 t57 t58 t59 t60 t61 t62 t63 t65 t66 t67 t68 t69 t70 t71 t72 t73 t74 t75 t76 t77 t78 t79 t80 t81 t82 t83 t84 t85 t86 t87 t88 t89 t90 t91 t92 t93 t94 t95 t96 t97 t98 t99 t100 t101 t102 t103 t104 t105 t106 t107 t108 t109 t110 t111 t112 t113 t114 t115 t116 t117 t118 t119 t120 t121 t122 t123 t124 t125 t126 t127 t128 t129 t130 t131 t132 t133 t134 t135 t136 t137 t138 t139 t140 t141 t142 t143 t144 t145 t146 t147 t148 t149 t150 t151 t152 t153 t154 t155 t156 t157 t158 t159 t160 t161 t162 t163 t164 t165 t166 t167 t168 t169 t170 t171 t172 t173 t174 t175 t176 t177 t178 t179 t180 t181 t182 t183 t184 t185 t186 t187 t188 t189 t190 t191 t192 t193 t194 t195 t196 t197 t198 t199 : Value) (Q : Exit → Go.Act → World → Prop)
    (HQ : Hid (∀ (v10 v11 v12 v13 v14 v15 v16 v17 v18 v19 v20 v21 v65 v66 v67 v68 v69 v70 v71 v72 v73 v74 v75 v76 v77 v78 v79 v80 v81 v82 v83 v84 v85 v86 v87 v88 v89 v90 v91 v92 v93 v94 v95 v96 v97 v98 v99 v100 v101 v102 v103 v104 v105 v106 v107 v108 v109 v110 v111 v112 v113 v114 v115 v116 v117 v118 v119 v120 v121 v122 v123 v124 v125 v126 v127 v128 v129 v130 v131 v132 v133 v134 v135 v136 v137 v138 v139 v140 v141 v142 v143 v144 v145 v146 v147 v148 v149 v150 v151 v152 v153 v154 v155 v156 v157 v158 v159 v160 v161 v162 v163 : Value) (wr : World), XI K w ad g g2 cn (i + 1) wr → Q .normal ⟨#[t0, t1, t2, t3, t4, .pointer (some ⟨g, 0, none⟩), t6, .pointer (some ⟨g2, 0, none⟩), t8, .pointer (some ⟨bX, 0, none⟩), v10, v11, v12, v13, v14, v15, v16, v17, v18, v19, v20, v21, t22, t23, t24, t25, t26, t27, t28, t29, t30, t31, t32, t33, t34, t35, t36, t37, t38, t39, t40, t41, t42, t43, t44, t45, t46, t47, t48, t49, t50, t51, t52, t53, t54, t55, t56, t57, t58, t59, t60, t61, t62, t63, .int .i64 kind, v65, v66, v67, v68, v69, v70, v71, v72, v73, v74, v75, v76, v77, v78, v79, v80, v81, v82, v83, v84, v85, v86, v87, v88, v89, v90, v91, v92, v93, v94, v95, v96, v97, v98, v99, v100, v101, v102, v103, v104, v105, v106, v107, v108, v109, v110, v111, v112, v113, v114, v115, v116, v117, v118, v119, v120, v121, v122, v123, v124, v125, v126, v127, v128, v129, v130, v131, v132, v133, v134, v135, v136, v137, v138, v139, v140, v141, v142, v143, v144, v145, v146, v147, v148, v149, v150, v151, v152, v153, v154, v155, v156, v157, v158, v159, v160, v161, v162, v163, t164, t165, t166, t167, t168, t169, t170, t171, t172, t173, t174, t175, t176, t177, t178, t179, t180, t181, t182, t183, t184, t185, t186, t187, t188, t189, t190, t191, t192, t193, t194, t195, t196, t197, t198, t199], []⟩ wr)) :
    Code.wp Tryd.prog sw Q ⟨#[t0, t1, t2, t3, t4, .pointer (some ⟨g, 0, none⟩), t6, .pointer (some ⟨g2, 0, none⟩), t8, .pointer (some ⟨bX, 0, none⟩), t10, t11, t12, t13, t14, t15, t16, t17, t18, t19, t20, t21, t22, t23, t24, t25, t26, t27, t28, t29, t30, t31, t32, t33, t34, t35, t36, t37, t38, t39, t40, t41, t42, t43, t44, t45, t46, t47, t48, t49, t50, t51, t52, t53, t54, t55, t56, t57, t58, t59, t60, t61, t62, t63, .int .i64 kind, t65, t66, t67, t68, t69, t70, t71, t72, t73, t74, t75, t76, t77, t78, t79, t80, t81, t82, t83, t84, t85, t86, t87, t88, t89, t90, t91, t92, t93, t94, t95, t96, t97, t98, t99, t100, t101, t102, t103, t104, t105, t106, t107, t108, t109, t110, t111, t112, t113, t114, t115, t116, t117, t118, t119, t120, t121, t122, t123, t124, t125, t126, t127, t128, t129, t130, t131, t132, t133, t134, t135, t136, t137, t138, t139, t140, t141, t142, t143, t144, t145, t146, t147, t148, t149, t150, t151, t152, t153, t154, t155, t156, t157, t158, t159, t160, t161, t162, t163, t164, t165, t166, t167, t168, t169, t170, t171, t172, t173, t174, t175, t176, t177, t178, t179, t180, t181, t182, t183, t184, t185, t186, t187, t188, t189, t190, t191, t192, t193, t194, t195, t196, t197, t198, t199], []⟩ W3 := by
  conv => arg 2; whnf
  have hkb1 : (kind == 1) = false := by simp [hk1]
  have hkb2 : (kind == 2) = false := by simp [hk2]
  have hkb3 : (kind == 3) = false := by simp [hk3]
  have hkb4 : (kind == 4) = false := by simp [hk4]
  obtain ⟨y0, y1, y2, y3, y4, ly⟩ := D.out.act (b := bX) (x0 := .int .i64 kind) (x1 := .int .u32 am) (x2 := .int .u32 aw) (x3 := .int .i64 node) (x4 := .int .i64 n) (by simp)
  have hml := match_len am aw ms ms.length
  go_upto_region 14 with (fail)
  go_region_held3 (fun w' => w'.cell? ⟨bX, 1, none⟩ = some (.int .u32 am) ∧ w'.cell? ⟨bX, 2, none⟩ = some (.int .u32 aw)) (first | go_keep | exact keep14 (x0 := .int .i64 kind) (x3 := .int .i64 node) (x4 := .int .i64 n) Dc.out (by simp) | exact keep14 (x0 := .int .i64 kind) (x3 := .int .i64 node) (x4 := .int .i64 n) Db.out (by simp) | exact keep14 (x0 := .int .i64 kind) (x3 := .int .i64 node) (x4 := .int .i64 n) Da.out (by simp))
    (first
      | (go_at_call 17; refine (match_ok (D.out.fr0 ((Fr.refl [] _).drew)).atl am aw ha hb (by omega)).mono ?_; rintro e wa ⟨va, rfl, hrow, hf⟩; have Da := hide ((D.out.fr0 ((Fr.refl [] _).drew)).fr0 hf); have Va := hide hrow; clear hf hrow)
      | (go_at_call 25; refine (rmatch_ok Da.out.ref am aw ha hb (by omega)).mono ?_; rintro e wb ⟨vb, rfl, hrow, hf⟩; have Db := hide (Da.out.fr0 hf); have Vb := hide hrow; have Vc := hide (row_fr Va.out hf (by simp)); clear hf hrow)
      | (go_at_call 24; refine (same_calls (xs := (matchN am aw ms ms.length).map fun n : Nat => (n : Int)) (ys := (matchN am aw ms ms.length).map fun n : Nat => (n : Int)) (by rw [List.length_map]; exact Vc.out) (by rw [List.length_map]; exact Vb.out) (by rw [List.length_map]; omega) (by rw [List.length_map]; omega)).mono ?_; rw [decide_eq_true rfl]; rintro e wc ⟨rfl, hf⟩; have Dc := hide (Db.out.fr0 hf); clear hf))
  all_goals
    go_wp2_with fail
    apply HQ.out
    exact ⟨ms, _, _, by omega, Dc.out.sub (by simp)⟩
end Go.Proofs.YtclmmfkbkaldlaaDoor

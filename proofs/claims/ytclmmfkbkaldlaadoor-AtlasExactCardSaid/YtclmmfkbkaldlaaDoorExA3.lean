/- AtlasExact: a round's call, kind 3. -/
import Derived.Test.YtclmmfkbkaldlaaDoorExA0
import Derived.Deep.CutBlock
import Derived.Deep.DeepCutAuto
namespace Go.Proofs.YtclmmfkbkaldlaaDoor
open Go.RowKit

set_option maxRecDepth 100000 in
set_option maxHeartbeats 4000000 in
theorem way3 {K : List Nat} {w W3 : World} {ad : Nat → Addr} {g g2 bX cn : Nat} {ms S1 S2 : List Nat} {kind node n : Int} {am aw : Nat} {i : Nat}
    (hk : kind = 3) (hall : ∀ k ∈ All18, k ∈ K) (h1 : 1 ∈ K) (h7 : 7 ∈ K) (ha : am < 4294967296) (hb : aw < 4294967296) (hi2 : i < 100) (hl : ms.length ≤ 1 + 40 * i)
    (D : Hid (EI K w ad g g2 cn ms ms S1 S2 [(bX, 51, #[.int .i64 kind, .int .u32 am, .int .u32 aw, .int .i64 node, .int .i64 n])] W3))
    (t0 t1 t2 t3 t4 t6 t8 t10 t11 t12 t13 t14 t15 t16 t17 t18 t19 t20 t21 t22 t23 t24 t25 t26 t27 t28 t29 t30 t31 t32 t33 t34 t35 t36 t37 t38 t39 t40 t41 t42 t43 t44 t45 t46 t47 t48 t49 t50 t51 t52 t53 t54 t55 t56 t57 t58 t59 t60 t61 t62 t63 t65 t66 t67 t68 t69 t70 t71 t72 t73 t74 t75 t76 t77 t78 t79 t80 t81 t82 t83 t84 t85 t86 t87 t88 t89 t90 t91 t92 t93 t94 t95 t96 t97 t98 t99 t100 t101 t102 t103 t104 t105 t106 t107 t108 t109 t110 t111 t112 t113 t114 t115 t116 t117 t118 t119 t120 t121 t122 t123 t124 t125 t126 t127 t128 t129 t130 t131 t132 t133 t134 t135 t136 t137 t138 t139 t140 t141 t142 t143 t144 t145 t146 t147 t148 t149 t150 t151 t152 t153 t154 t155 t156 t157 t158 t159 t160 t161 t162 t163 t164 t165 t166 t167 t168 t169 t170 t171 t172 t173 t174 t175 t176 t177 t178 t179 t180 t181 t182 t183 t184 t185 t186 t187 t188 t189 t190 t191 t192 t193 t194 t195 t196 t197 t198 t199 : Value) (Q : Exit → Go.Act → World → Prop)
    (HQ : Hid (∀ (v10 v11 v12 v13 v14 v15 v16 v17 v18 v19 v20 v21 v65 v66 v67 v68 v69 v70 v71 v72 v73 v74 v75 v76 v77 v78 v79 v80 v81 v82 v83 v84 v85 v86 v87 v88 v89 v90 v91 v92 v93 v94 v95 v96 v97 v98 v99 v100 v101 v102 v103 v104 v105 v106 v107 v108 v109 v110 v111 v112 v113 v114 v115 v116 v117 v118 v119 v120 v121 v122 v123 v124 v125 v126 v127 v128 v129 v130 v131 v132 v133 v134 v135 v136 v137 v138 v139 v140 v141 v142 v143 v144 v145 v146 v147 v148 v149 v150 v151 v152 v153 v154 v155 v156 v157 v158 v159 v160 v161 v162 v163 : Value) (wr : World), XI K w ad g g2 cn (i + 1) wr → Q .normal ⟨#[t0, t1, t2, t3, t4, .pointer (some ⟨g, 0, none⟩), t6, .pointer (some ⟨g2, 0, none⟩), t8, .pointer (some ⟨bX, 0, none⟩), v10, v11, v12, v13, v14, v15, v16, v17, v18, v19, v20, v21, t22, t23, t24, t25, t26, t27, t28, t29, t30, t31, t32, t33, t34, t35, t36, t37, t38, t39, t40, t41, t42, t43, t44, t45, t46, t47, t48, t49, t50, t51, t52, t53, t54, t55, t56, t57, t58, t59, t60, t61, t62, t63, .int .i64 kind, v65, v66, v67, v68, v69, v70, v71, v72, v73, v74, v75, v76, v77, v78, v79, v80, v81, v82, v83, v84, v85, v86, v87, v88, v89, v90, v91, v92, v93, v94, v95, v96, v97, v98, v99, v100, v101, v102, v103, v104, v105, v106, v107, v108, v109, v110, v111, v112, v113, v114, v115, v116, v117, v118, v119, v120, v121, v122, v123, v124, v125, v126, v127, v128, v129, v130, v131, v132, v133, v134, v135, v136, v137, v138, v139, v140, v141, v142, v143, v144, v145, v146, v147, v148, v149, v150, v151, v152, v153, v154, v155, v156, v157, v158, v159, v160, v161, v162, v163, t164, t165, t166, t167, t168, t169, t170, t171, t172, t173, t174, t175, t176, t177, t178, t179, t180, t181, t182, t183, t184, t185, t186, t187, t188, t189, t190, t191, t192, t193, t194, t195, t196, t197, t198, t199], []⟩ wr)) :
    Code.wp Tryd.prog sw Q ⟨#[t0, t1, t2, t3, t4, .pointer (some ⟨g, 0, none⟩), t6, .pointer (some ⟨g2, 0, none⟩), t8, .pointer (some ⟨bX, 0, none⟩), t10, t11, t12, t13, t14, t15, t16, t17, t18, t19, t20, t21, t22, t23, t24, t25, t26, t27, t28, t29, t30, t31, t32, t33, t34, t35, t36, t37, t38, t39, t40, t41, t42, t43, t44, t45, t46, t47, t48, t49, t50, t51, t52, t53, t54, t55, t56, t57, t58, t59, t60, t61, t62, t63, .int .i64 kind, t65, t66, t67, t68, t69, t70, t71, t72, t73, t74, t75, t76, t77, t78, t79, t80, t81, t82, t83, t84, t85, t86, t87, t88, t89, t90, t91, t92, t93, t94, t95, t96, t97, t98, t99, t100, t101, t102, t103, t104, t105, t106, t107, t108, t109, t110, t111, t112, t113, t114, t115, t116, t117, t118, t119, t120, t121, t122, t123, t124, t125, t126, t127, t128, t129, t130, t131, t132, t133, t134, t135, t136, t137, t138, t139, t140, t141, t142, t143, t144, t145, t146, t147, t148, t149, t150, t151, t152, t153, t154, t155, t156, t157, t158, t159, t160, t161, t162, t163, t164, t165, t166, t167, t168, t169, t170, t171, t172, t173, t174, t175, t176, t177, t178, t179, t180, t181, t182, t183, t184, t185, t186, t187, t188, t189, t190, t191, t192, t193, t194, t195, t196, t197, t198, t199], []⟩ W3 := by
  conv => arg 2; whnf
  subst hk
  obtain ⟨y0, y1, y2, y3, y4, ly⟩ := D.out.act (b := bX) (x0 := .int .i64 3) (x1 := .int .u32 am) (x2 := .int .u32 aw) (x3 := .int .i64 node) (x4 := .int .i64 n) (by simp)
  by_cases hn : node < 0 ∨ (ms.length : Int) ≤ node
  · have Hn := hide hn
    clear hn
    have q := turn_none_false D.out.cx.sents h7 D.out.atl ⟨3, am, aw, node, n⟩ (show (3 : Int) ≠ 2 by decide) Hn.out (by omega)
    simp only [actA] at q
    go_wp2_with fail
    refine (q).mono ?_
    rintro e w4 ⟨u, rfl, hn, hf⟩
    obtain ⟨bE, sE, rfl, hd⟩ := D.out.err hf hn
    have D4 := hide hd
    clear hd hn hf D q
    clear y0 y1 y2 y3 y4 ly
    obtain ⟨y0, y1, y2, y3, y4, ly⟩ := D4.out.act (b := bX) (x0 := .int .i64 3) (x1 := .int .u32 am) (x2 := .int .u32 aw) (x3 := .int .i64 node) (x4 := .int .i64 n) (by simp)
    go_wp2_with fail
    refine (rturn_none D4.out.ref node n false Hn.out (by omega)).mono ?_
    rintro e w' ⟨rfl, rfl⟩
    go_wp2_with fail
    refine (number_calls (D4.out.cx.sents.sub hall) (.inr ⟨by omega, chain_of (b := bE) (s := sE) (D4.out.cx.blk (by simp))⟩) (k := 7) (by omega)).mono ?_
    rintro e w' ⟨rfl, rfl⟩
    go_wp2_with fail
    apply HQ.out
    exact ⟨ms, _, _, by omega, D4.out.sub (by simp)⟩
  obtain ⟨nd, rfl⟩ := Int.eq_ofNat_of_zero_le (a := node) (by omega)
  obtain ⟨m, hm⟩ : ∃ m, ms[nd]? = some m := ⟨_, List.getElem?_eq_getElem (by omega)⟩
  have Hm := hide hm
  clear hm hn
  by_cases hc : n < 0 ∨ (cn : Int) ≤ n
  · have Hc := hide hc
    clear hc
    have q := turn_arg_false D.out.cx.sents h1 D.out.atl ⟨3, am, aw, nd, n⟩ (show (3 : Int) ≠ 2 by decide) rfl Hm.out Hc.out (by omega)
    simp only [actA] at q
    go_wp2_with fail
    refine (q).mono ?_
    rintro e w4 ⟨u, rfl, hn, hf⟩
    obtain ⟨bE, sE, rfl, hd⟩ := D.out.err hf hn
    have D4 := hide hd
    clear hd hn hf D q
    clear y0 y1 y2 y3 y4 ly
    obtain ⟨y0, y1, y2, y3, y4, ly⟩ := D4.out.act (b := bX) (x0 := .int .i64 3) (x1 := .int .u32 am) (x2 := .int .u32 aw) (x3 := .int .i64 (nd : Int)) (x4 := .int .i64 n) (by simp)
    go_wp2_with fail
    refine (rturn_arg D4.out.ref Hm.out n false Hc.out (by omega)).mono ?_
    rintro e w' ⟨rfl, rfl⟩
    go_wp2_with fail
    refine (number_calls (D4.out.cx.sents.sub hall) (.inr ⟨by omega, chain_of (b := bE) (s := sE) (D4.out.cx.blk (by simp))⟩) (k := 1) (by omega)).mono ?_
    rintro e w' ⟨rfl, rfl⟩
    go_wp2_with fail
    apply HQ.out
    exact ⟨ms, _, _, by omega, D4.out.sub (by simp)⟩
  obtain ⟨c, rfl⟩ := Int.eq_ofNat_of_zero_le (a := n) (by omega)
  have hcc : c < cn := by omega
  · clear hc
    have q := turn_ok_false D.out.atl ⟨3, am, aw, nd, c⟩ (show (3 : Int) ≠ 2 by decide) D.out.cx.leW rfl Hm.out rfl hcc (by omega)
    simp only [actA] at q
    go_wp2_with fail
    refine (q).mono ?_
    rintro e w4 ⟨rfl, S3, hr, hst⟩
    have D4 := hide (D.out.one hr hst)
    clear hr hst D q
    clear y0 y1 y2 y3 y4 ly
    obtain ⟨y0, y1, y2, y3, y4, ly⟩ := D4.out.act (b := bX) (x0 := .int .i64 3) (x1 := .int .u32 am) (x2 := .int .u32 aw) (x3 := .int .i64 (nd : Int)) (x4 := .int .i64 (c : Int)) (by simp)
    go_wp2_with fail
    refine (rturn_ok D4.out.ref D4.out.cx.leW Hm.out hcc (by omega) false).mono ?_
    rintro e w5 ⟨rfl, S4, hr, hst⟩
    have D5 := hide (D4.out.two hr hst)
    clear hr hst D4
    go_wp2_with fail
    refine (number_calls (D5.out.cx.sents.sub hall) (.inl ⟨rfl, rfl, rfl⟩ : IsErr _ _ _ 0 []) (by omega)).mono ?_
    rintro e w' ⟨rfl, rfl⟩
    go_wp2_with fail
    apply HQ.out
    exact ⟨addm ms (tgt false m c), _, _, tgt_len ms _ i hl, D5.out.sub (by simp)⟩
end Go.Proofs.YtclmmfkbkaldlaaDoor

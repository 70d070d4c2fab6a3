/- ColumnExact: a round's call, kind 3. -/
import Derived.Test.YtgifeligogjfiaaDoorExC0
namespace Go.Proofs.YtgifeligogjfiaaDoor
open Go.RowKit
set_option maxRecDepth 100000 in
set_option maxHeartbeats 4000000 in
theorem way3 {K : List Nat} {w W3 : World} {ad : Nat → Addr} {g g2 b11 b12 b13 : Nat} {comp : Int} {k : Nat} {S1 S2 : List Nat} {ps : List Pt} {kind an cell value : Int} {ap : Pt} {i : Nat}
    (hk : kind = 3) (h1 : 1 ∈ K) (h7 : 7 ∈ K) (c0 : 0 ≤ comp) (c1 : comp < 16) (k1 : 1 ≤ k) (k4 : k ≤ 4) (hi2 : i < 200)
    (Hft : Hid ((∀ p ∈ ps, Fits comp k p) ∧ ps.length ≤ i)) (hwr : w.heap.size ≤ b11) (hb12 : w.heap.size ≤ b12) (hb13 : w.heap.size ≤ b13) (q1 : b11 ≠ b12) (q2 : b11 ≠ b13) (q3 : b12 ≠ b13)
    (D : Hid (CI K w ad g g2 comp k S1 S2 [(b13, 35, boxP zP), (b12, 35, boxP zP), (b11, 52, #[.int .i64 kind, .int .i64 an, .int .i64 ap.c, .int .i64 ap.v0, .int .i64 ap.v1, .int .i64 ap.v2, .int .i64 ap.v3, .int .i64 ap.t, .int .i64 cell, .int .i64 value])] ps ps W3))
    (t0 t1 t2 t3 t4 t5 t6 t8 t16 t17 t18 t19 t20 t21 t22 t23 t24 t25 t26 t27 t28 t29 t30 t31 t32 t33 t34 t35 t36 t37 t38 t39 t40 t41 t42 t43 t44 t45 t46 t47 t48 t49 t50 t51 t52 t53 t54 t55 t56 t57 t58 t59 t60 t61 t62 t63 t64 t65 t66 t67 t68 t69 t71 t72 t73 t74 t75 t76 t77 t78 t79 t80 t81 t82 t83 t84 t85 t86 t87 t88 t89 t90 t91 t92 t93 t94 t95 t96 t97 t98 t99 t100 t101 t102 t103 t104 t105 t106 t107 t108 t109 t110 t111 t112 t113 t114 t115 t116 t117 t118 t119 t120 t121 t122 t123 t124 t125 t126 t127 t128 t129 t130 t131 t132 t133 t134 t135 t136 t137 t138 t139 t140 t141 t142 t143 t144 t145 t146 t147 t148 t149 t150 t151 t152 t153 t154 t155 t156 t157 t158 t159 t160 t161 t162 t163 t164 t165 t166 t167 t168 t169 t170 t171 t172 t173 t174 t175 t176 t177 t178 t179 t180 t181 t182 t183 t184 t185 t186 t187 t188 t189 t190 t191 t192 t193 t194 t195 t196 t197 t198 t199 t200 t201 t202 t203 t204 t205 t206 t207 t208 t209 t210 t211 t212 t213 t214 t215 t216 t217 t218 t219 t220 t221 t222 t223 t224 t225 t226 t227 t228 t229 t230 t231 t232 t233 t234 t235 t236 : Value) (Q : Exit → Go.Act → World → Prop)
    (HQ : Hid (∀ (v14 v15 v16 v17 v18 v19 v71 v72 v73 v74 v75 v76 v77 v78 v79 v80 v81 v82 v83 v84 v85 v86 v87 v88 v89 v90 v91 v92 v93 v94 v95 v96 v97 v98 v99 v100 v101 v102 v103 v104 v105 v106 v107 v108 v109 v110 v111 v112 v113 v114 v115 v116 v117 v118 v119 v120 v121 v122 v123 v124 v125 v126 v127 v128 v129 v130 v131 v132 v133 v134 v135 v136 v137 v138 v139 v140 v141 v142 v143 v144 v145 v146 v147 v148 v149 v150 v151 v152 : Value) (wr : World), YI K w ad g g2 comp k (i + 1) b11 b12 b13 #[.int .i64 kind, .int .i64 an, .int .i64 ap.c, .int .i64 ap.v0, .int .i64 ap.v1, .int .i64 ap.v2, .int .i64 ap.v3, .int .i64 ap.t, .int .i64 cell, .int .i64 value] v14 v15 wr → Q .normal ⟨#[t0, t1, t2, t3, t4, t5, t6, .pointer (some ⟨g, 0, none⟩), t8, .pointer (some ⟨g2, 0, none⟩), .int .i64 i, .pointer (some ⟨b11, 0, none⟩), .pointer (some ⟨b12, 0, none⟩), .pointer (some ⟨b13, 0, none⟩), v14, v15, v16, v17, v18, v19, t20, t21, t22, t23, t24, t25, t26, t27, t28, t29, t30, t31, t32, t33, t34, t35, t36, t37, t38, t39, t40, t41, t42, t43, t44, t45, t46, t47, t48, t49, t50, t51, t52, t53, t54, t55, t56, t57, t58, t59, t60, t61, t62, t63, t64, t65, t66, t67, t68, t69, .int .i64 kind, v71, v72, v73, v74, v75, v76, v77, v78, v79, v80, v81, v82, v83, v84, v85, v86, v87, v88, v89, v90, v91, v92, v93, v94, v95, v96, v97, v98, v99, v100, v101, v102, v103, v104, v105, v106, v107, v108, v109, v110, v111, v112, v113, v114, v115, v116, v117, v118, v119, v120, v121, v122, v123, v124, v125, v126, v127, v128, v129, v130, v131, v132, v133, v134, v135, v136, v137, v138, v139, v140, v141, v142, v143, v144, v145, v146, v147, v148, v149, v150, v151, v152, t153, t154, t155, t156, t157, t158, t159, t160, t161, t162, t163, t164, t165, t166, t167, t168, t169, t170, t171, t172, t173, t174, t175, t176, t177, t178, t179, t180, t181, t182, t183, t184, t185, t186, t187, t188, t189, t190, t191, t192, t193, t194, t195, t196, t197, t198, t199, t200, t201, t202, t203, t204, t205, t206, t207, t208, t209, t210, t211, t212, t213, t214, t215, t216, t217, t218, t219, t220, t221, t222, t223, t224, t225, t226, t227, t228, t229, t230, t231, t232, t233, t234, t235, t236], []⟩ wr)) :
    Code.wp Tryd.prog sw Q ⟨#[t0, t1, t2, t3, t4, t5, t6, .pointer (some ⟨g, 0, none⟩), t8, .pointer (some ⟨g2, 0, none⟩), .int .i64 i, .pointer (some ⟨b11, 0, none⟩), .pointer (some ⟨b12, 0, none⟩), .pointer (some ⟨b13, 0, none⟩), .nilIface, .int .i64 0, t16, t17, t18, t19, t20, t21, t22, t23, t24, t25, t26, t27, t28, t29, t30, t31, t32, t33, t34, t35, t36, t37, t38, t39, t40, t41, t42, t43, t44, t45, t46, t47, t48, t49, t50, t51, t52, t53, t54, t55, t56, t57, t58, t59, t60, t61, t62, t63, t64, t65, t66, t67, t68, t69, .int .i64 kind, t71, t72, t73, t74, t75, t76, t77, t78, t79, t80, t81, t82, t83, t84, t85, t86, t87, t88, t89, t90, t91, t92, t93, t94, t95, t96, t97, t98, t99, t100, t101, t102, t103, t104, t105, t106, t107, t108, t109, t110, t111, t112, t113, t114, t115, t116, t117, t118, t119, t120, t121, t122, t123, t124, t125, t126, t127, t128, t129, t130, t131, t132, t133, t134, t135, t136, t137, t138, t139, t140, t141, t142, t143, t144, t145, t146, t147, t148, t149, t150, t151, t152, t153, t154, t155, t156, t157, t158, t159, t160, t161, t162, t163, t164, t165, t166, t167, t168, t169, t170, t171, t172, t173, t174, t175, t176, t177, t178, t179, t180, t181, t182, t183, t184, t185, t186, t187, t188, t189, t190, t191, t192, t193, t194, t195, t196, t197, t198, t199, t200, t201, t202, t203, t204, t205, t206, t207, t208, t209, t210, t211, t212, t213, t214, t215, t216, t217, t218, t219, t220, t221, t222, t223, t224, t225, t226, t227, t228, t229, t230, t231, t232, t233, t234, t235, t236], []⟩ W3 := by
  conv => arg 2; whnf
  have hpn : ps.length ≤ 1000000 := by have := Hft.out.2; omega
  have q1' := q1.symm
  have q2' := q2.symm
  have q3' := q3.symm
  obtain ⟨y0, y1, y2, y3, y4, y5, y6, y7, y8, y9, l11⟩ := D.out.act (b := b11) (x0 := .int .i64 kind) (x1 := .int .i64 an) (x2 := .int .i64 ap.c) (x3 := .int .i64 ap.v0) (x4 := .int .i64 ap.v1) (x5 := .int .i64 ap.v2) (x6 := .int .i64 ap.v3) (x7 := .int .i64 ap.t) (x8 := .int .i64 cell) (x9 := .int .i64 value) (by simp)
  obtain ⟨z0, z1, z2, z3, z4, z5, zf, l12⟩ := D.out.cel (b := b12) zP (by simp)
  obtain ⟨x0, x1, x2, x3, x4, x5, xf, l13⟩ := D.out.cel (b := b13) zP (by simp)
  subst hk
  by_cases hn : an < 0 ∨ (ps.length : Int) ≤ an
  · have Hn := hide hn
    clear hn
    go_wp2_with fail
    refine (Put_err (rowErr_none D.out.cx.sents h7 D.out.col hpn an Hn.out) ap).mono ?_
    rintro e w4 ⟨u, rfl, hn, hf⟩
    obtain ⟨bE, sE, rfl, hd⟩ := D.out.err hf hn
    have D4 := hide hd
    clear hd hn hf
    clear y0 y1 y2 y3 y4 y5 y6 y7 y8 y9 l11 l12 l13 z0 z1 z2 z3 z4 z5 zf x0 x1 x2 x3 x4 x5 xf
    obtain ⟨y0, y1, y2, y3, y4, y5, y6, y7, y8, y9, l11⟩ := D4.out.act (b := b11) (x0 := .int .i64 3) (x1 := .int .i64 an) (x2 := .int .i64 ap.c) (x3 := .int .i64 ap.v0) (x4 := .int .i64 ap.v1) (x5 := .int .i64 ap.v2) (x6 := .int .i64 ap.v3) (x7 := .int .i64 ap.t) (x8 := .int .i64 cell) (x9 := .int .i64 value) (by simp)
    obtain ⟨z0, z1, z2, z3, z4, z5, zf, l12⟩ := D4.out.cel (b := b12) zP (by simp)
    obtain ⟨x0, x1, x2, x3, x4, x5, xf, l13⟩ := D4.out.cel (b := b13) zP (by simp)
    have nE2 := D4.out.ne (a := bE) (t := 81) (cs := #[.string sE, sv (ad 7)]) (b := b12) (u := 35) (ds := boxP zP) (by simp) (by simp) (by decide)
    have nE3 := D4.out.ne (a := bE) (t := 81) (cs := #[.string sE, sv (ad 7)]) (b := b13) (u := 35) (ds := boxP zP) (by simp) (by simp) (by decide)
    have D5 := hide (D4.out.part' (z := zP) (b := b12) (by simp) hb12 zP (L' := [(bE, 81, #[.string sE, sv (ad 7)]), (b13, 35, boxP zP), (b11, 52, #[.int .i64 3, .int .i64 an, .int .i64 ap.c, .int .i64 ap.v0, .int .i64 ap.v1, .int .i64 ap.v2, .int .i64 ap.v3, .int .i64 ap.t, .int .i64 cell, .int .i64 value])]) (by simp [nE2, q1, q3']))
    simp only [encP, boxP, zP]
    go_wp2_with fail
    refine (rcput_none D5.out.ref hpn an Hn.out ap).mono ?_
    rintro e w5 ⟨rfl, hf⟩
    have D6 := hide (D5.out.fr0 hf)
    clear hf D5 D4 D
    clear y0 y1 y2 y3 y4 y5 y6 y7 y8 y9 l11 l12 l13 z0 z1 z2 z3 z4 z5 zf x0 x1 x2 x3 x4 x5 xf
    obtain ⟨y0, y1, y2, y3, y4, y5, y6, y7, y8, y9, l11⟩ := D6.out.act (b := b11) (x0 := .int .i64 3) (x1 := .int .i64 an) (x2 := .int .i64 ap.c) (x3 := .int .i64 ap.v0) (x4 := .int .i64 ap.v1) (x5 := .int .i64 ap.v2) (x6 := .int .i64 ap.v3) (x7 := .int .i64 ap.t) (x8 := .int .i64 cell) (x9 := .int .i64 value) (by simp)
    obtain ⟨z0, z1, z2, z3, z4, z5, zf, l12⟩ := D6.out.cel (b := b12) zP (by simp)
    obtain ⟨x0, x1, x2, x3, x4, x5, xf, l13⟩ := D6.out.cel (b := b13) zP (by simp)
    have D7 := hide (D6.out.part' (z := zP) (b := b13) (by simp) hb13 zP (L' := [(b12, 35, boxP zP), (bE, 81, #[.string sE, sv (ad 7)]), (b11, 52, #[.int .i64 3, .int .i64 an, .int .i64 ap.c, .int .i64 ap.v0, .int .i64 ap.v1, .int .i64 ap.v2, .int .i64 ap.v3, .int .i64 ap.t, .int .i64 cell, .int .i64 value])]) (by simp [nE3, q2, q3]))
    simp only [encP, boxP, zP]
    go_wp2_with fail
    apply HQ.out
    exact ⟨ps, _, _, 7, zP, _, by have := Hft.out.2; simp <;> omega, Hft.out.1, by omega, rfl, Or.inr ⟨bE, sE, rfl, by omega, by simp⟩, by simp, by simp, by simp, D7.out⟩
  obtain ⟨n, rfl⟩ := Int.eq_ofNat_of_zero_le (a := an) (by omega)
  have hnl : n < ps.length := by omega
  obtain ⟨p, hp⟩ : ∃ p, ps[n]? = some p := ⟨ps[n], by simp [hnl]⟩
  have Hp := hide hp
  have Hnl := hide hnl
  clear hp hn hnl
  by_cases hj : Fits comp k ap
  · have Hj := hide hj
    clear hj
    go_wp2_with fail
    refine (Put_ok D.out.col k1 k4 hpn Hp.out ap Hj.out).mono ?_
    rintro e w4 ⟨rfl, hr, hf⟩
    have D4 := hide (D.out.one hr (Stp.same hf))
    clear hr hf
    clear y0 y1 y2 y3 y4 y5 y6 y7 y8 y9 l11 l12 l13 z0 z1 z2 z3 z4 z5 zf x0 x1 x2 x3 x4 x5 xf
    obtain ⟨y0, y1, y2, y3, y4, y5, y6, y7, y8, y9, l11⟩ := D4.out.act (b := b11) (x0 := .int .i64 3) (x1 := .int .i64 (n : Int)) (x2 := .int .i64 ap.c) (x3 := .int .i64 ap.v0) (x4 := .int .i64 ap.v1) (x5 := .int .i64 ap.v2) (x6 := .int .i64 ap.v3) (x7 := .int .i64 ap.t) (x8 := .int .i64 cell) (x9 := .int .i64 value) (by simp)
    obtain ⟨z0, z1, z2, z3, z4, z5, zf, l12⟩ := D4.out.cel (b := b12) zP (by simp)
    obtain ⟨x0, x1, x2, x3, x4, x5, xf, l13⟩ := D4.out.cel (b := b13) zP (by simp)
    have D5 := hide (D4.out.part' (z := zP) (b := b12) (by simp) hb12 p (L' := [(b13, 35, boxP zP), (b11, 52, #[.int .i64 3, .int .i64 (n : Int), .int .i64 ap.c, .int .i64 ap.v0, .int .i64 ap.v1, .int .i64 ap.v2, .int .i64 ap.v3, .int .i64 ap.t, .int .i64 cell, .int .i64 value])]) (by simp [q1, q3']))
    simp only [encP, boxP]
    go_wp2_with fail
    refine (rcput_ok D5.out.ref D5.out.cx.leW k1 k4 hpn Hp.out ap Hj.out).mono ?_
    rintro e w5 ⟨rfl, S2', hr, hst⟩
    have D6 := hide (D5.out.two hr hst)
    clear hr hst D5 D4 D
    clear y0 y1 y2 y3 y4 y5 y6 y7 y8 y9 l11 l12 l13 z0 z1 z2 z3 z4 z5 zf x0 x1 x2 x3 x4 x5 xf
    obtain ⟨y0, y1, y2, y3, y4, y5, y6, y7, y8, y9, l11⟩ := D6.out.act (b := b11) (x0 := .int .i64 3) (x1 := .int .i64 (n : Int)) (x2 := .int .i64 ap.c) (x3 := .int .i64 ap.v0) (x4 := .int .i64 ap.v1) (x5 := .int .i64 ap.v2) (x6 := .int .i64 ap.v3) (x7 := .int .i64 ap.t) (x8 := .int .i64 cell) (x9 := .int .i64 value) (by simp)
    obtain ⟨z0, z1, z2, z3, z4, z5, zf, l12⟩ := D6.out.cel (b := b12) p (by simp)
    obtain ⟨x0, x1, x2, x3, x4, x5, xf, l13⟩ := D6.out.cel (b := b13) zP (by simp)
    have D7 := hide (D6.out.part' (z := zP) (b := b13) (by simp) hb13 p (L' := [(b12, 35, boxP p), (b11, 52, #[.int .i64 3, .int .i64 (n : Int), .int .i64 ap.c, .int .i64 ap.v0, .int .i64 ap.v1, .int .i64 ap.v2, .int .i64 ap.v3, .int .i64 ap.t, .int .i64 cell, .int .i64 value])]) (by simp [q2, q3]))
    simp only [encP, boxP]
    go_wp2_with fail
    apply HQ.out
    exact ⟨ps.set n ap, _, _, 0, p, _, by have := Hft.out.2; simp <;> omega, fits_put Hft.out.1 Hj.out n, by omega, rfl, Or.inl ⟨rfl, rfl⟩, by simp, by simp, by simp, D7.out⟩
  have Hj := hide hj
  clear hj
  go_wp2_with fail
  refine (Put_arg D.out.cx.sents h1 D.out.col k1 k4 hpn Hnl.out ap Hj.out).mono ?_
  rintro e w4 ⟨u, rfl, hn, hf⟩
  obtain ⟨bE, sE, rfl, hd⟩ := D.out.err hf hn
  have D4 := hide hd
  clear hd hn hf
  clear y0 y1 y2 y3 y4 y5 y6 y7 y8 y9 l11 l12 l13 z0 z1 z2 z3 z4 z5 zf x0 x1 x2 x3 x4 x5 xf
  obtain ⟨y0, y1, y2, y3, y4, y5, y6, y7, y8, y9, l11⟩ := D4.out.act (b := b11) (x0 := .int .i64 3) (x1 := .int .i64 (n : Int)) (x2 := .int .i64 ap.c) (x3 := .int .i64 ap.v0) (x4 := .int .i64 ap.v1) (x5 := .int .i64 ap.v2) (x6 := .int .i64 ap.v3) (x7 := .int .i64 ap.t) (x8 := .int .i64 cell) (x9 := .int .i64 value) (by simp)
  obtain ⟨z0, z1, z2, z3, z4, z5, zf, l12⟩ := D4.out.cel (b := b12) zP (by simp)
  obtain ⟨x0, x1, x2, x3, x4, x5, xf, l13⟩ := D4.out.cel (b := b13) zP (by simp)
  have nE2 := D4.out.ne (a := bE) (t := 81) (cs := #[.string sE, sv (ad 1)]) (b := b12) (u := 35) (ds := boxP zP) (by simp) (by simp) (by decide)
  have nE3 := D4.out.ne (a := bE) (t := 81) (cs := #[.string sE, sv (ad 1)]) (b := b13) (u := 35) (ds := boxP zP) (by simp) (by simp) (by decide)
  have D5 := hide (D4.out.part' (z := zP) (b := b12) (by simp) hb12 zP (L' := [(bE, 81, #[.string sE, sv (ad 1)]), (b13, 35, boxP zP), (b11, 52, #[.int .i64 3, .int .i64 (n : Int), .int .i64 ap.c, .int .i64 ap.v0, .int .i64 ap.v1, .int .i64 ap.v2, .int .i64 ap.v3, .int .i64 ap.t, .int .i64 cell, .int .i64 value])]) (by simp [nE2, q1, q3']))
  simp only [encP, boxP, zP]
  go_wp2_with fail
  refine (rcput_arg D5.out.ref k1 k4 hpn Hnl.out ap Hj.out).mono ?_
  rintro e w5 ⟨rfl, hf⟩
  have D6 := hide (D5.out.fr0 hf)
  clear hf D5 D4 D
  clear y0 y1 y2 y3 y4 y5 y6 y7 y8 y9 l11 l12 l13 z0 z1 z2 z3 z4 z5 zf x0 x1 x2 x3 x4 x5 xf
  obtain ⟨y0, y1, y2, y3, y4, y5, y6, y7, y8, y9, l11⟩ := D6.out.act (b := b11) (x0 := .int .i64 3) (x1 := .int .i64 (n : Int)) (x2 := .int .i64 ap.c) (x3 := .int .i64 ap.v0) (x4 := .int .i64 ap.v1) (x5 := .int .i64 ap.v2) (x6 := .int .i64 ap.v3) (x7 := .int .i64 ap.t) (x8 := .int .i64 cell) (x9 := .int .i64 value) (by simp)
  obtain ⟨z0, z1, z2, z3, z4, z5, zf, l12⟩ := D6.out.cel (b := b12) zP (by simp)
  obtain ⟨x0, x1, x2, x3, x4, x5, xf, l13⟩ := D6.out.cel (b := b13) zP (by simp)
  have D7 := hide (D6.out.part' (z := zP) (b := b13) (by simp) hb13 zP (L' := [(b12, 35, boxP zP), (bE, 81, #[.string sE, sv (ad 1)]), (b11, 52, #[.int .i64 3, .int .i64 (n : Int), .int .i64 ap.c, .int .i64 ap.v0, .int .i64 ap.v1, .int .i64 ap.v2, .int .i64 ap.v3, .int .i64 ap.t, .int .i64 cell, .int .i64 value])]) (by simp [nE3, q2, q3]))
  simp only [encP, boxP, zP]
  go_wp2_with fail
  apply HQ.out
  exact ⟨ps, _, _, 1, zP, _, by have := Hft.out.2; simp <;> omega, Hft.out.1, by omega, rfl, Or.inr ⟨bE, sE, rfl, by omega, by simp⟩, by simp, by simp, by simp, D7.out⟩
end Go.Proofs.YtgifeligogjfiaaDoor

/- ColumnExact: the walk of the law. -/
import Derived.Test.YtgifeligogjfiaaDoorExC1
import Derived.Test.YtgifeligogjfiaaDoorExC2
import Derived.Test.YtgifeligogjfiaaDoorExC3
import Derived.Test.YtgifeligogjfiaaDoorExC4
namespace Go.Proofs.YtgifeligogjfiaaDoor
open Go.RowKit
set_option maxRecDepth 100000 in
set_option maxHeartbeats 8000000 in
theorem exactc_walk {K : List Nat} {w : World} {ad : Nat → Addr} (hs : Sents K w.heap.size w ad) (hall : ∀ k ∈ All18, k ∈ K) (comp k0 : Int) (A : Option Addr) (len c : Nat) (acts : List Act) (hl : acts.length = len) (hlen : len ≤ maxLen)
    (hr : Reads w w.heap.size 10 A len (acts.flatMap encAct)) :
    Calls Tryd.prog 6 #[.int .i64 comp, .int .i64 k0, .slice A len c] w fun e w' => e = .returned (.bool true) ∧ Below w.heap.size w w' := by
  unfold maxLen at hlen
  have h1 : 1 ∈ K := hall 1 (by decide)
  have h7 : 7 ∈ K := hall 7 (by decide)
  have C := hide (Cx.start hs)
  have HR := hide hr
  have Hl := hide hl
  clear hs hr hl
  go_enter Tryd.func6, Tryd.ntmps6
  go_wp2_with fail
  refine (awake_calls C.out.sents h1 h7).mono ?_
  rintro e w1 ⟨rfl, hf⟩
  have C1 := hide (C.out.fr0 hf)
  clear hf C
  by_cases hn0 : comp < 0 ∨ 16 ≤ comp ∨ k0 < 1 ∨ 4 < k0
  · have Hn := hide hn0
    clear hn0
    go_wp2_with fail
    refine (new_err C1.out.sents h1 comp k0 Hn.out).mono ?_
    rintro e w2 ⟨v, rfl, hn, hf⟩
    obtain ⟨b1, s1, rfl, hc⟩ := C1.out.err hf hn
    have C2 := hide hc
    clear hc hn hf C1
    go_wp2_with fail
    refine (rcnew_nil _ comp k0 Hn.out).mono ?_
    rintro e w3 ⟨rfl, hf⟩
    have C3 := hide (C2.out.fr0 hf)
    clear hf C2
    have g1 := C3.out.sents.cell 1 h1
    simp only [gOf] at g1
    go_wp2_with fail
    refine (is_chain C3.out.sents h1 h1 (chain_of (b := b1) (s := s1) (C3.out.blk (by simp)))).mono ?_
    rintro e w' ⟨rfl, rfl⟩
    go_wp2_with fail
    go_ret
    exact ⟨by simp, C3.out.fr.below (by simp) (Nat.le_refl _)⟩
  obtain ⟨k, rfl⟩ := Int.eq_ofNat_of_zero_le (a := k0) (by omega)
  have c0 : 0 ≤ comp := by omega
  have c1 : comp < 16 := by omega
  have k1 : 1 ≤ k := by omega
  have k4 : k ≤ 4 := by omega
  clear hn0
  go_wp2_with fail
  refine (new_ok C1.out.leW comp k c0 c1 k1 k4).mono ?_
  rintro e w2 ⟨g, S1, rfl, hr, hf, hnew⟩
  have C2 := hide (C1.out.obj hf hnew fun b hb => (hr.lt b hb).1)
  rw [List.append_nil] at C2
  have R2 := hide hr
  clear hr hf hnew C1
  go_wp2_with fail
  refine (rcnew_ok C2.out.leW comp k c0 c1 k1 k4).mono ?_
  rintro e w3 ⟨g2, S2, rfl, hr, hf, hnew⟩
  have C3 := hide (C2.out.obj hf hnew fun b hb => (hr.lt b hb).1)
  have R3 := hide (R2.out.fr hf (by simp))
  have Q3 := hide (And.intro hr (fun b (hb : b ∈ S1) (hm : b ∈ S2) => by have := hnew b hm; have := (R2.out.lt b hb).1; omega : ∀ b ∈ S1, b ∉ S2))
  clear hr hf hnew C2 R2
  have I0 : XI K w ad g g2 comp k 0 w3 := by
    refine ⟨[], S1, S2, by simp, by simp, R3.out, Q3.out.1, Q3.out.2, ?_⟩
    have h := C3.out
    exact ⟨h.sents, by simp, fun b hb => h.lt b (by simp only [List.mem_append] at hb ⊢; exact hb.symm), h.fr, fun b hb => h.new b (by simp only [List.mem_append] at hb ⊢; exact hb.symm), h.le⟩
  have HI0 := hide I0
  clear I0 C3 R3 Q3
  go_upto_block 0 with (fail)
  go_cut [10] (fun _ wr => XI K w ad g g2 comp k 200 wr)
  case first =>
    go_wp2_with fail
    go_loopw [10] (fun s10 wr => ∃ (i : Nat), i ≤ 200 ∧ s10 = .int .i64 i ∧ XI K w ad g g2 comp k i wr) (fun s10 _ => 200 - (intOf s10).toNat)
    case atStart => exact ⟨0, by omega, rfl, HI0.out⟩
    case round =>
      clear HI0
      obtain ⟨i, hi, rfl, hI⟩ := hrel
      have HI := hide hI
      clear hI
      by_cases hi1 : i < len
      · by_cases hi2 : i < 200
        · obtain ⟨⟨kind, an, ap, cell, value⟩, ha⟩ : ∃ a, acts[i]? = some a := ⟨acts[i]'(by have := Hl.out; omega), by simp⟩
          obtain ⟨bA, oA, rfl, hbA, hcA⟩ := HR.out.at_ encAct_len ha Hl.out
          obtain ⟨ps, S1, S2, hps, hft, hD⟩ := HI.out
          have hbw := hD.below
          have hwr := hD.cx.fr.size
          have a0 := (hbw.cell (p := ⟨bA, oA + (i * 10 + 0), none⟩) hbA).trans (hcA 0 (.int .i64 kind) rfl)
          have a1 := (hbw.cell (p := ⟨bA, oA + (i * 10 + 1), none⟩) hbA).trans (hcA 1 (.int .i64 an) rfl)
          have a2 := (hbw.cell (p := ⟨bA, oA + (i * 10 + 2), none⟩) hbA).trans (hcA 2 (.int .i64 ap.c) rfl)
          have a3 := (hbw.cell (p := ⟨bA, oA + (i * 10 + 3), none⟩) hbA).trans (hcA 3 (.int .i64 ap.v0) rfl)
          have a4 := (hbw.cell (p := ⟨bA, oA + (i * 10 + 4), none⟩) hbA).trans (hcA 4 (.int .i64 ap.v1) rfl)
          have a5 := (hbw.cell (p := ⟨bA, oA + (i * 10 + 5), none⟩) hbA).trans (hcA 5 (.int .i64 ap.v2) rfl)
          have a6 := (hbw.cell (p := ⟨bA, oA + (i * 10 + 6), none⟩) hbA).trans (hcA 6 (.int .i64 ap.v3) rfl)
          have a7 := (hbw.cell (p := ⟨bA, oA + (i * 10 + 7), none⟩) hbA).trans (hcA 7 (.int .i64 ap.t) rfl)
          have a8 := (hbw.cell (p := ⟨bA, oA + (i * 10 + 8), none⟩) hbA).trans (hcA 8 (.int .i64 cell) rfl)
          have a9 := (hbw.cell (p := ⟨bA, oA + (i * 10 + 9), none⟩) hbA).trans (hcA 9 (.int .i64 value) rfl)
          rw [Nat.add_zero] at a0
          rw [← Nat.add_assoc] at a1 a2 a3 a4 a5 a6 a7 a8 a9
          have i0 : (0 : Int) ≤ (i : Int) := by omega
          have i1 : (i : Int) < (len : Int) := by omega
          --BEGIN
          have hD3 := ((hD.alloc_at 52 #[.int .i64 kind, .int .i64 an, .int .i64 ap.c, .int .i64 ap.v0, .int .i64 ap.v1, .int .i64 ap.v2, .int .i64 ap.v3, .int .i64 ap.t, .int .i64 cell, .int .i64 value] rfl).alloc_at 35 (boxP zP) (b := wr.heap.size + 1) (by simp)).alloc_at 35 (boxP zP) (b := wr.heap.size + 1 + 1) (by simp)
          have Hft := hide (And.intro hft hps)
          clear hbw hD hcA ha hft HI
          go_upto_region 15 with (fail)
          obtain ⟨W3, hW3⟩ : ∃ W3, W3 = ((wr.alloc (.cells #[.int .i64 kind, .int .i64 an, .int .i64 ap.c, .int .i64 ap.v0, .int .i64 ap.v1, .int .i64 ap.v2, .int .i64 ap.v3, .int .i64 ap.t, .int .i64 cell, .int .i64 value] 52)).alloc (.cells #[.int .i64 0, .int .i64 0, .int .i64 0, .int .i64 0, .int .i64 0, .int .i64 0] 35)).alloc (.cells #[.int .i64 0, .int .i64 0, .int .i64 0, .int .i64 0, .int .i64 0, .int .i64 0] 35) := ⟨_, rfl⟩
          change CI K w ad g g2 comp k S1 S2 _ ps ps (((wr.alloc (.cells #[.int .i64 kind, .int .i64 an, .int .i64 ap.c, .int .i64 ap.v0, .int .i64 ap.v1, .int .i64 ap.v2, .int .i64 ap.v3, .int .i64 ap.t, .int .i64 cell, .int .i64 value] 52)).alloc (.cells #[.int .i64 0, .int .i64 0, .int .i64 0, .int .i64 0, .int .i64 0, .int .i64 0] 35)).alloc (.cells #[.int .i64 0, .int .i64 0, .int .i64 0, .int .i64 0, .int .i64 0, .int .i64 0] 35)) at hD3
          rw [← hW3] at hD3 ⊢
          have hb12 : w.heap.size ≤ wr.heap.size + 1 := by omega
          have hb13 : w.heap.size ≤ wr.heap.size + 1 + 1 := by omega
          have q1 : wr.heap.size ≠ wr.heap.size + 1 := by omega
          have q2 : wr.heap.size ≠ wr.heap.size + 1 + 1 := by omega
          have q3 : wr.heap.size + 1 ≠ wr.heap.size + 1 + 1 := by omega
          generalize wr.heap.size + 1 + 1 = b13 at *
          generalize wr.heap.size + 1 = b12 at *
          generalize wr.heap.size = b11 at *
          clear hW3 a0 a1 a2 a3 a4 a5 a6 a7 a8 a9 hbA
          have hpn : ps.length ≤ 1000000 := by omega
          have D := hide hD3
          clear hD3 hps
          have q1' := q1.symm
          have q2' := q2.symm
          have q3' := q3.symm
          obtain ⟨y0, y1, y2, y3, y4, y5, y6, y7, y8, y9, l11⟩ := D.out.act (b := b11) (x0 := .int .i64 kind) (x1 := .int .i64 an) (x2 := .int .i64 ap.c) (x3 := .int .i64 ap.v0) (x4 := .int .i64 ap.v1) (x5 := .int .i64 ap.v2) (x6 := .int .i64 ap.v3) (x7 := .int .i64 ap.t) (x8 := .int .i64 cell) (x9 := .int .i64 value) (by simp)
          obtain ⟨z0, z1, z2, z3, z4, z5, zf, l12⟩ := D.out.cel (b := b12) zP (by simp)
          obtain ⟨x0, x1, x2, x3, x4, x5, xf, l13⟩ := D.out.cel (b := b13) zP (by simp)
          go_upto_block 2 with (fail)
          go_cut [14, 15] (fun v14 v15 wr' => YI K w ad g g2 comp k (i + 1) b11 b12 b13 #[.int .i64 kind, .int .i64 an, .int .i64 ap.c, .int .i64 ap.v0, .int .i64 ap.v1, .int .i64 ap.v2, .int .i64 ap.v3, .int .i64 ap.t, .int .i64 cell, .int .i64 value] v14 v15 wr')
          case first =>
            by_cases hk1 : kind = 1
            · refine way1 hk1 h1 h7 c0 c1 k1 k4 hi2 Hft hwr hb12 hb13 q1 q2 q3 D _ _ _ _ _ _ _ _ _ _ _ _ _ _ _ _ _ _ _ _ _ _ _ _ _ _ _ _ _ _ _ _ _ _ _ _ _ _ _ _ _ _ _ _ _ _ _ _ _ _ _ _ _ _ _ _ _ _ _ _ _ _ _ _ _ _ _ _ _ _ _ _ _ _ _ _ _ _ _ _ _ _ _ _ _ _ _ _ _ _ _ _ _ _ _ _ _ _ _ _ _ _ _ _ _ _ _ _ _ _ _ _ _ _ _ _ _ _ _ _ _ _ _ _ _ _ _ _ _ _ _ _ _ _ _ _ _ _ _ _ _ _ _ _ _ _ _ _ _ _ _ _ _ _ _ _ _ _ _ _ _ _ _ _ _ _ _ _ _ _ _ _ _ _ _ _ _ _ _ _ _ _ _ _ _ _ _ _ _ _ _ _ _ _ _ _ _ _ _ _ _ _ _ _ _ _ _ _ _ _ _ _ _ _ _ _ _ _ _ _ _ _ _ _ _ _ _ _ _ (hide ?_)
              intro v14 v15 v16 v17 v18 v19 v71 v72 v73 v74 v75 v76 v77 v78 v79 v80 v81 v82 v83 v84 v85 v86 v87 v88 v89 v90 v91 v92 v93 v94 v95 v96 v97 v98 v99 v100 v101 v102 v103 v104 v105 v106 v107 v108 v109 v110 v111 v112 v113 v114 v115 v116 v117 v118 v119 v120 v121 v122 v123 v124 v125 v126 v127 v128 v129 v130 v131 v132 v133 v134 v135 v136 v137 v138 v139 v140 v141 v142 v143 v144 v145 v146 v147 v148 v149 v150 v151 v152 wr' hY
              dsimp only
              go_wp2_with fail
              go_meet
              exact hY
            by_cases hk2 : kind = 2
            · refine way2 hk2 h1 h7 c0 c1 k1 k4 hi2 Hft hwr hb12 hb13 q1 q2 q3 D _ _ _ _ _ _ _ _ _ _ _ _ _ _ _ _ _ _ _ _ _ _ _ _ _ _ _ _ _ _ _ _ _ _ _ _ _ _ _ _ _ _ _ _ _ _ _ _ _ _ _ _ _ _ _ _ _ _ _ _ _ _ _ _ _ _ _ _ _ _ _ _ _ _ _ _ _ _ _ _ _ _ _ _ _ _ _ _ _ _ _ _ _ _ _ _ _ _ _ _ _ _ _ _ _ _ _ _ _ _ _ _ _ _ _ _ _ _ _ _ _ _ _ _ _ _ _ _ _ _ _ _ _ _ _ _ _ _ _ _ _ _ _ _ _ _ _ _ _ _ _ _ _ _ _ _ _ _ _ _ _ _ _ _ _ _ _ _ _ _ _ _ _ _ _ _ _ _ _ _ _ _ _ _ _ _ _ _ _ _ _ _ _ _ _ _ _ _ _ _ _ _ _ _ _ _ _ _ _ _ _ _ _ _ _ _ _ _ _ _ _ _ _ _ _ _ _ _ _ (hide ?_)
              intro v14 v15 v16 v17 v18 v19 v71 v72 v73 v74 v75 v76 v77 v78 v79 v80 v81 v82 v83 v84 v85 v86 v87 v88 v89 v90 v91 v92 v93 v94 v95 v96 v97 v98 v99 v100 v101 v102 v103 v104 v105 v106 v107 v108 v109 v110 v111 v112 v113 v114 v115 v116 v117 v118 v119 v120 v121 v122 v123 v124 v125 v126 v127 v128 v129 v130 v131 v132 v133 v134 v135 v136 v137 v138 v139 v140 v141 v142 v143 v144 v145 v146 v147 v148 v149 v150 v151 v152 wr' hY
              dsimp only
              go_wp2_with fail
              go_meet
              exact hY
            by_cases hk3 : kind = 3
            · refine way3 hk3 h1 h7 c0 c1 k1 k4 hi2 Hft hwr hb12 hb13 q1 q2 q3 D _ _ _ _ _ _ _ _ _ _ _ _ _ _ _ _ _ _ _ _ _ _ _ _ _ _ _ _ _ _ _ _ _ _ _ _ _ _ _ _ _ _ _ _ _ _ _ _ _ _ _ _ _ _ _ _ _ _ _ _ _ _ _ _ _ _ _ _ _ _ _ _ _ _ _ _ _ _ _ _ _ _ _ _ _ _ _ _ _ _ _ _ _ _ _ _ _ _ _ _ _ _ _ _ _ _ _ _ _ _ _ _ _ _ _ _ _ _ _ _ _ _ _ _ _ _ _ _ _ _ _ _ _ _ _ _ _ _ _ _ _ _ _ _ _ _ _ _ _ _ _ _ _ _ _ _ _ _ _ _ _ _ _ _ _ _ _ _ _ _ _ _ _ _ _ _ _ _ _ _ _ _ _ _ _ _ _ _ _ _ _ _ _ _ _ _ _ _ _ _ _ _ _ _ _ _ _ _ _ _ _ _ _ _ _ _ _ _ _ _ _ _ _ _ _ _ _ _ _ (hide ?_)
              intro v14 v15 v16 v17 v18 v19 v71 v72 v73 v74 v75 v76 v77 v78 v79 v80 v81 v82 v83 v84 v85 v86 v87 v88 v89 v90 v91 v92 v93 v94 v95 v96 v97 v98 v99 v100 v101 v102 v103 v104 v105 v106 v107 v108 v109 v110 v111 v112 v113 v114 v115 v116 v117 v118 v119 v120 v121 v122 v123 v124 v125 v126 v127 v128 v129 v130 v131 v132 v133 v134 v135 v136 v137 v138 v139 v140 v141 v142 v143 v144 v145 v146 v147 v148 v149 v150 v151 v152 wr' hY
              dsimp only
              go_wp2_with fail
              go_meet
              exact hY
            refine way4 hk1 hk2 hk3 h1 h7 c0 c1 k1 k4 hi2 Hft hwr hb12 hb13 q1 q2 q3 D _ _ _ _ _ _ _ _ _ _ _ _ _ _ _ _ _ _ _ _ _ _ _ _ _ _ _ _ _ _ _ _ _ _ _ _ _ _ _ _ _ _ _ _ _ _ _ _ _ _ _ _ _ _ _ _ _ _ _ _ _ _ _ _ _ _ _ _ _ _ _ _ _ _ _ _ _ _ _ _ _ _ _ _ _ _ _ _ _ _ _ _ _ _ _ _ _ _ _ _ _ _ _ _ _ _ _ _ _ _ _ _ _ _ _ _ _ _ _ _ _ _ _ _ _ _ _ _ _ _ _ _ _ _ _ _ _ _ _ _ _ _ _ _ _ _ _ _ _ _ _ _ _ _ _ _ _ _ _ _ _ _ _ _ _ _ _ _ _ _ _ _ _ _ _ _ _ _ _ _ _ _ _ _ _ _ _ _ _ _ _ _ _ _ _ _ _ _ _ _ _ _ _ _ _ _ _ _ _ _ _ _ _ _ _ _ _ _ _ _ _ _ _ _ _ _ _ _ _ (hide ?_)
            intro v14 v15 v16 v17 v18 v19 v71 v72 v73 v74 v75 v76 v77 v78 v79 v80 v81 v82 v83 v84 v85 v86 v87 v88 v89 v90 v91 v92 v93 v94 v95 v96 v97 v98 v99 v100 v101 v102 v103 v104 v105 v106 v107 v108 v109 v110 v111 v112 v113 v114 v115 v116 v117 v118 v119 v120 v121 v122 v123 v124 v125 v126 v127 v128 v129 v130 v131 v132 v133 v134 v135 v136 v137 v138 v139 v140 v141 v142 v143 v144 v145 v146 v147 v148 v149 v150 v151 v152 wr' hY
            dsimp only
            go_wp2_with fail
            go_meet
            exact hY
          case rest =>
            clear D y0 y1 y2 y3 y4 y5 y6 y7 y8 y9 l11 z0 z1 z2 z3 z4 z5 zf l12 x0 x1 x2 x3 x4 x5 xf l13 Hft
            obtain ⟨ps', S1', S2', j, ⟨pc, p0, p1, p2, p3, pt⟩, L, hps, hft, hj, rfl, he, m13, m12, m11, hD⟩ := hcut
            obtain ⟨A2, c2, hg2, -, -⟩ := hD.ref.form
            obtain ⟨⟨e0, e1, e2, e3, e4, e5⟩, ⟨f0, f1, f2, f3, f4, f5⟩, gL⟩ := keep33 hD m13 m12 hg2
            have D := hide (hD.fr0 ((Fr.refl [] _).drew))
            have G := hide (hg2.fr0 ((Fr.refl [] _).drew))
            obtain ⟨T, hT⟩ := D.out.isErr he
            have HT := hide hT
            have Hf := hide (And.intro hps (And.intro hft (And.intro he m11)))
            have M13 := hide m13
            have M12 := hide m12
            have hpn : ps'.length ≤ 1000000 := by omega
            have Hsl := hide (since_le ps' i ps'.length)
            have eqz : ∀ W : World, (binOp .neq 35 (.agg #[.int .i64 pc, .int .i64 p0, .int .i64 p1, .int .i64 p2, .int .i64 p3, .int .i64 pt]) (.agg #[.int .i64 pc, .int .i64 p0, .int .i64 p1, .int .i64 p2, .int .i64 p3, .int .i64 pt])).run Tryd.prog W = .ok (.bool false) W := fun W => by
              have := (eql_part ⟨pc, p0, p1, p2, p3, pt⟩ ⟨pc, p0, p1, p2, p3, pt⟩ W).2
              simpa [encP, boxP] using this
            clear hT hps hft he m13 m12 m11 hD hg2
            go_upto_region 33 with (fail)
            go_region_held3 (fun w' => (w'.cell? ⟨b12, 0, none⟩ = some (.int .i64 pc) ∧ w'.cell? ⟨b12, 1, none⟩ = some (.int .i64 p0) ∧ w'.cell? ⟨b12, 2, none⟩ = some (.int .i64 p1) ∧ w'.cell? ⟨b12, 3, none⟩ = some (.int .i64 p2) ∧ w'.cell? ⟨b12, 4, none⟩ = some (.int .i64 p3) ∧ w'.cell? ⟨b12, 5, none⟩ = some (.int .i64 pt)) ∧ (w'.cell? ⟨b13, 0, none⟩ = some (.int .i64 pc) ∧ w'.cell? ⟨b13, 1, none⟩ = some (.int .i64 p0) ∧ w'.cell? ⟨b13, 2, none⟩ = some (.int .i64 p1) ∧ w'.cell? ⟨b13, 3, none⟩ = some (.int .i64 p2) ∧ w'.cell? ⟨b13, 4, none⟩ = some (.int .i64 p3) ∧ w'.cell? ⟨b13, 5, none⟩ = some (.int .i64 pt)) ∧ w'.cell? ⟨g2, 2, none⟩ = some (.slice A2 ps'.length c2))
              (first | go_keep | exact keep33 Dd.out M13.out M12.out Gd.out | exact keep33 Dc.out M13.out M12.out Gc.out | exact keep33 Db.out M13.out M12.out Gb.out | exact keep33 Da.out M13.out M12.out Ga.out)
              (first
                | (go_at_call 22; ((with_reducible refine (number_calls (D.out.cx.sents.sub hall) HT.out (by omega)).mono ?_)); rintro e w' ⟨rfl, rfl⟩)
                | (go_at_call 10; ((with_reducible refine (Len_calls D.out.col).mono ?_)); rintro e wa ⟨rfl, hf⟩; have Da := hide (D.out.fr0 hf); have Ga := hide (G.out.fr0 hf); clear hf)
                | (go_at_call 14; ((with_reducible refine (Since_ok Da.out.col hpn i).mono ?_)); rintro e wb ⟨va, rfl, hrow, hf⟩; have Db := hide (Da.out.fr0 hf); have Gb := hide (Ga.out.fr0 hf); have Va := hide hrow; clear hf hrow)
                | (go_at_call 24; ((with_reducible refine (rcsince Db.out.ref hpn i).mono ?_)); rintro e wc ⟨vb, rfl, hrow, hf⟩; have Dc := hide (Db.out.fr0 hf); have Gc := hide (Gb.out.fr0 hf); have Vb := hide hrow; have Vc := hide (row_fr Va.out hf (by simp)); clear hf hrow)
                | (go_at_call 23; refine (same_calls (xs := sinceL ps' i) (ys := sinceL ps' i) Vc.out Vb.out (by have := Hsl.out; unfold sinceL; omega) (by have := Hsl.out; unfold sinceL; omega)).mono ?_; rw [decide_eq_true (rfl : sinceL ps' i = sinceL ps' i)]; rintro e wd ⟨rfl, hf⟩; have Dd := hide (Dc.out.fr0 hf); have Gd := hide (Gc.out.fr0 hf); clear hf))
            clear eqz e0 e1 e2 e3 e4 e5 f0 f1 f2 f3 f4 f5 gL D G Da Ga Db Gb Dc Gc Va Vb Vc Gd M12 M13 HT Hsl
            obtain ⟨y0, y1, y2, y3, y4, y5, y6, y7, y8, y9, l11⟩ := Dd.out.act (x0 := .int .i64 kind) (x1 := .int .i64 an) (x2 := .int .i64 ap.c) (x3 := .int .i64 ap.v0) (x4 := .int .i64 ap.v1) (x5 := .int .i64 ap.v2) (x6 := .int .i64 ap.v3) (x7 := .int .i64 ap.t) (x8 := .int .i64 cell) (x9 := .int .i64 value) Hf.out.2.2.2
            by_cases hok : an < 0 ∨ (ps'.length : Int) ≤ an
            · have Hn := hide hok
              clear hok
              have eqz : ∀ W : World, (binOp .neq 35 (.agg #[.int .i64 0, .int .i64 0, .int .i64 0, .int .i64 0, .int .i64 0, .int .i64 0]) (.agg #[.int .i64 0, .int .i64 0, .int .i64 0, .int .i64 0, .int .i64 0, .int .i64 0])).run Tryd.prog W = .ok (.bool false) W := fun W => by
                have := (eql_part zP zP W).2
                simpa [encP, boxP, zP] using this
              go_wp2_with fail
              refine (Row_err (rowErr_none Dd.out.cx.sents h7 Dd.out.col hpn an Hn.out)).mono ?_
              rintro e w4 ⟨u, rfl, hn, hf⟩
              obtain ⟨bE, sE, rfl, hd⟩ := Dd.out.err hf hn
              have D4 := hide hd
              clear hd hn hf y0 y1 y2 y3 y4 y5 y6 y7 y8 y9 l11
              obtain ⟨y0, y1, y2, y3, y4, y5, y6, y7, y8, y9, l11⟩ := D4.out.act (b := b11) (x0 := .int .i64 kind) (x1 := .int .i64 an) (x2 := .int .i64 ap.c) (x3 := .int .i64 ap.v0) (x4 := .int .i64 ap.v1) (x5 := .int .i64 ap.v2) (x6 := .int .i64 ap.v3) (x7 := .int .i64 ap.t) (x8 := .int .i64 cell) (x9 := .int .i64 value) (List.mem_cons_of_mem _ Hf.out.2.2.2)
              simp only [encP, boxP, zP]
              have D5 := hide (D4.out.alloc_at 35 #[.int .i64 0, .int .i64 0, .int .i64 0, .int .i64 0, .int .i64 0, .int .i64 0] rfl)
              go_wp2_with fail
              refine (rcrow_err D5.out.ref hpn an Hn.out).mono ?_
              rintro e w5 ⟨rfl, hf⟩
              have D6 := hide (D5.out.fr0 hf)
              obtain ⟨z0, z1, z2, z3, z4, z5, zf, l20⟩ := D6.out.cel (b := w4.heap.size) zP (by simp [boxP, zP])
              clear hf y0 y1 y2 y3 y4 y5 y6 y7 y8 y9 l11
              simp only [encP, boxP, zP]
              simp only [zP] at z0 z1 z2 z3 z4 z5
              have D7 := hide ((D6.out.alloc_at 35 #[.int .i64 0, .int .i64 0, .int .i64 0, .int .i64 0, .int .i64 0, .int .i64 0] rfl).sub (L' := [(bE, 81, #[.string sE, sv (ad 7)])]) (by simp))
              go_wp2_with fail
              refine (number_calls (D7.out.cx.sents.sub hall) (.inr ⟨by omega, chain_of (b := bE) (s := sE) (D7.out.cx.blk (by simp))⟩) (k := 7) (by omega)).mono ?_
              rintro e w' ⟨rfl, rfl⟩
              go_wp2_with fail
              go_roundw
              case rel => exact ⟨i + 1, by omega, by go_num, ps', S1', S2', Hf.out.1, Hf.out.2.1, D7.out.sub (by simp)⟩
              case measure => simp [intOf]; omega
            · have hn1 : 0 ≤ an := by omega
              obtain ⟨n, rfl⟩ := Int.eq_ofNat_of_zero_le hn1
              have hn2 : n < ps'.length := by omega
              obtain ⟨⟨xc, x0, x1, x2, x3, xt⟩, hx⟩ : ∃ x, ps'[n]? = some x := ⟨_, List.getElem?_eq_getElem hn2⟩
              have Hx := hide hx
              clear hx hn1 hok
              have eqz : ∀ W : World, (binOp .neq 35 (.agg #[.int .i64 xc, .int .i64 x0, .int .i64 x1, .int .i64 x2, .int .i64 x3, .int .i64 xt]) (.agg #[.int .i64 xc, .int .i64 x0, .int .i64 x1, .int .i64 x2, .int .i64 x3, .int .i64 xt])).run Tryd.prog W = .ok (.bool false) W := fun W => by
                have := (eql_part ⟨xc, x0, x1, x2, x3, xt⟩ ⟨xc, x0, x1, x2, x3, xt⟩ W).2
                simpa [encP, boxP] using this
              go_wp2_with fail
              refine (Row_ok Dd.out.col (by omega) (by omega) hpn Hx.out).mono ?_
              rintro e w4 ⟨rfl, hf⟩
              have D4 := hide (Dd.out.fr0 hf)
              clear hf y0 y1 y2 y3 y4 y5 y6 y7 y8 y9 l11
              obtain ⟨y0, y1, y2, y3, y4, y5, y6, y7, y8, y9, l11⟩ := D4.out.act (b := b11) (x0 := .int .i64 kind) (x1 := .int .i64 (n : Int)) (x2 := .int .i64 ap.c) (x3 := .int .i64 ap.v0) (x4 := .int .i64 ap.v1) (x5 := .int .i64 ap.v2) (x6 := .int .i64 ap.v3) (x7 := .int .i64 ap.t) (x8 := .int .i64 cell) (x9 := .int .i64 value) Hf.out.2.2.2
              simp only [encP, boxP]
              have D5 := hide (D4.out.alloc_at 35 #[.int .i64 xc, .int .i64 x0, .int .i64 x1, .int .i64 x2, .int .i64 x3, .int .i64 xt] rfl)
              go_wp2_with fail
              refine (rcrow_ok D5.out.ref hpn Hx.out).mono ?_
              rintro e w5 ⟨rfl, hf⟩
              have D6 := hide (D5.out.fr0 hf)
              obtain ⟨z0, z1, z2, z3, z4, z5, zf, l20⟩ := D6.out.cel (b := w4.heap.size) ⟨xc, x0, x1, x2, x3, xt⟩ (by simp [boxP])
              clear hf y0 y1 y2 y3 y4 y5 y6 y7 y8 y9 l11
              simp only [encP, boxP]
              have D7 := hide ((D6.out.alloc_at 35 #[.int .i64 xc, .int .i64 x0, .int .i64 x1, .int .i64 x2, .int .i64 x3, .int .i64 xt] rfl).sub (L' := []) (by simp))
              go_wp2_with fail
              refine (number_calls (D7.out.cx.sents.sub hall) (.inl ⟨rfl, rfl, rfl⟩ : IsErr _ _ _ 0 []) (by omega)).mono ?_
              rintro e w' ⟨rfl, rfl⟩
              go_wp2_with fail
              go_roundw
              case rel => exact ⟨i + 1, by omega, by go_num, ps', S1', S2', Hf.out.1, Hf.out.2.1, D7.out⟩
              case measure => simp [intOf]; omega
        · go_wp2_with fail
          go_meet
          obtain ⟨ps, S1, S2, hps, hft, hD⟩ := HI.out
          exact ⟨ps, S1, S2, by omega, hft, hD⟩
      · go_wp2_with fail
        go_meet
        obtain ⟨ps, S1, S2, hps, hft, hD⟩ := HI.out
        exact ⟨ps, S1, S2, by omega, hft, hD⟩
  case rest =>
    obtain ⟨ps, S1, S2, hps, -, hD⟩ := hcut
    clear HI0 HR Hl
    have HI := hide hD
    clear hD
    go_wp2_with fail
    go_loopw [24] (fun s24 wr => ∃ (r : Nat), r ≤ ps.length ∧ s24 = .int .i64 r ∧ CI K w ad g g2 comp k S1 S2 [] ps ps wr) (fun s24 _ => ps.length - (intOf s24).toNat)
    case atStart => exact ⟨0, by omega, rfl, HI.out⟩
    case round =>
      clear HI
      obtain ⟨r, hr, rfl, hI⟩ := hrel
      have HI := hide hI
      clear hI
      obtain ⟨A2, c2, hg2, hR2, -⟩ := HI.out.ref.form
      have R2 := hide hR2
      have G2 := hide hg2
      have gL := hg2.at_ 2 rfl
      have lg2 := hg2.lt
      clear hg2 hR2
      by_cases hr1 : r < ps.length
      · obtain ⟨⟨xc, x0, x1, x2, x3, xt⟩, hx⟩ : ∃ x, ps[r]? = some x := ⟨_, List.getElem?_eq_getElem hr1⟩
        have Hx := hide hx
        have r0 : (0 : Int) ≤ (r : Int) := by omega
        have r1 : (r : Int) < (ps.length : Int) := by omega
        clear hx
        go_wp2_with fail
        refine (Row_ok HI.out.col (by omega) (by omega) (by omega) Hx.out).mono ?_
        rintro e w9 ⟨rfl, hf⟩
        have H9 := hide (HI.out.fr0 hf)
        have hG9 := row_fr R2.out hf (by simp)
        have hg9 := (G2.out.fr0 hf).at_ 2 rfl
        have lg9 := (G2.out.fr0 hf).lt
        obtain ⟨gp, rfl⟩ : ∃ gp, A2 = some ⟨gp, 0, none⟩ := by
          rcases row_form hG9 with ⟨_, h0, _⟩ | ⟨gp, cp, h0, _⟩
          · omega
          · injection h0 with h0; exact ⟨_, h0⟩
        have hx := Hx.out
        have k0 := row_cell hG9 (i := r * 6 + 0) (u := .int .i64 xc) (by rw [flat_get encB_len hx 0 (by omega)]; rfl)
        have k1 := row_cell hG9 (i := r * 6 + 1) (u := .int .i64 x0) (by rw [flat_get encB_len hx 1 (by omega)]; rfl)
        have k2 := row_cell hG9 (i := r * 6 + 2) (u := .int .i64 x1) (by rw [flat_get encB_len hx 2 (by omega)]; rfl)
        have k3 := row_cell hG9 (i := r * 6 + 3) (u := .int .i64 x2) (by rw [flat_get encB_len hx 3 (by omega)]; rfl)
        have k4 := row_cell hG9 (i := r * 6 + 4) (u := .int .i64 x3) (by rw [flat_get encB_len hx 4 (by omega)]; rfl)
        have k5 := row_cell hG9 (i := r * 6 + 5) (u := .int .i64 xt) (by rw [flat_get encB_len hx 5 (by omega)]; rfl)
        rw [Nat.add_zero] at k0
        have lgk := (row_lt hG9 rfl).1
        have eqz : ∀ W : World, (binOp .neq 35 (.agg #[.int .i64 xc, .int .i64 x0, .int .i64 x1, .int .i64 x2, .int .i64 x3, .int .i64 xt]) (.agg #[.int .i64 xc, .int .i64 x0, .int .i64 x1, .int .i64 x2, .int .i64 x3, .int .i64 xt])).run Tryd.prog W = .ok (.bool false) W := fun W => by
          have := (eql_part ⟨xc, x0, x1, x2, x3, xt⟩ ⟨xc, x0, x1, x2, x3, xt⟩ W).2
          simpa [encP, boxP] using this
        have H10 := hide ((H9.out.alloc_at 35 #[.int .i64 xc, .int .i64 x0, .int .i64 x1, .int .i64 x2, .int .i64 x3, .int .i64 xt] rfl).sub (L' := []) (by simp))
        clear hf hG9 hx Hx HI R2 G2 H9 gL lg2
        simp only [encP, boxP]
        go_wp2_with fail
        go_quiet (fail)
        go_wp2_with fail
        go_roundw
        case rel => exact ⟨r + 1, by omega, by go_num, H10.out.fr0 ((Fr.refl [] _).drewN _)⟩
        case measure => simp [intOf]; omega
      · have Hsl := hide (since_le ps (-9223372036854775808) ps.length)
        go_wp2_with fail
        refine (Since_ok HI.out.col (by omega) (-9223372036854775808)).mono ?_
        rintro e wb ⟨va, rfl, hrow, hf⟩
        have Db := hide (HI.out.fr0 hf)
        have Va := hide hrow
        clear hf hrow
        go_wp2_with fail
        refine (rcsince Db.out.ref (by omega) (-9223372036854775808)).mono ?_
        rintro e wc ⟨vb, rfl, hrow, hf⟩
        have Dc := hide (Db.out.fr0 hf)
        have Vb := hide hrow
        have Vc := hide (row_fr Va.out hf (by simp))
        clear hf hrow
        go_wp2_with fail
        refine (same_calls (xs := sinceL ps (-9223372036854775808)) (ys := sinceL ps (-9223372036854775808)) Vc.out Vb.out (by have := Hsl.out; unfold sinceL; omega) (by have := Hsl.out; unfold sinceL; omega)).mono ?_
        rw [decide_eq_true (rfl : sinceL ps (-9223372036854775808) = sinceL ps (-9223372036854775808))]
        rintro e wd ⟨rfl, hf⟩
        have Dd := hide (Dc.out.fr0 hf)
        clear hf
        go_wp2_with fail
        go_ret
        exact ⟨rfl, Dd.out.below⟩
end Go.Proofs.YtgifeligogjfiaaDoor

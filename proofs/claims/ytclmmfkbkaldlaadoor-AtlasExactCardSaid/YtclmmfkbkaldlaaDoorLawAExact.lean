/- AtlasExact: the walk of the law. -/
import Derived.Test.YtclmmfkbkaldlaaDoorExA1
import Derived.Test.YtclmmfkbkaldlaaDoorExA2
import Derived.Test.YtclmmfkbkaldlaaDoorExA3
import Derived.Test.YtclmmfkbkaldlaaDoorExA4
import Derived.Test.YtclmmfkbkaldlaaDoorExA5
import Derived.Deep.DeepCutAuto
import Derived.Deep.CutBlock
namespace Go.Proofs.YtclmmfkbkaldlaaDoor
open Go.RowKit

set_option maxRecDepth 100000 in
set_option maxHeartbeats 8000000 in
theorem exacta_walk {K : List Nat} {w : World} {ad : Nat → Addr} (hs : Sents K w.heap.size w ad) (hall : ∀ k ∈ All18, k ∈ K) (hT : Tab w) (n0 : Int) (A : Option Addr) (len cap : Nat) (acts : List Act) (hl : acts.length = len) (hlen : len ≤ maxLen) (hok : ∀ a ∈ acts, a.m < 4294967296 ∧ a.w < 4294967296)
    (hr : Reads w w.heap.size 5 A len (acts.flatMap encAct)) :
    Calls Tryd.prog 7 #[.int .i64 n0, .slice A len cap] w fun e w' => e = .returned (.bool true) ∧ Below w.heap.size w w' := by
  unfold maxLen at hlen
  have h1 : 1 ∈ K := hall 1 (by decide)
  have h7 : 7 ∈ K := hall 7 (by decide)
  have C := hide (Cx.start hs)
  have HT := hide hT
  have HR := hide (And.intro hr (And.intro hl hok))
  clear hs hT hr hl hok
  go_enter Tryd.func7, Tryd.ntmps7
  go_wp2_with fail
  refine (awake_calls C.out.sents h1 h7 HT.out).mono ?_
  rintro e w1 ⟨rfl, hf⟩
  have C1 := hide (C.out.fr0 hf)
  clear hf C
  by_cases hn0 : n0 < 0 ∨ 16 < n0
  · have Hn := hide hn0
    clear hn0
    go_wp2_with fail
    refine (new_err C1.out.sents h1 n0 Hn.out).mono ?_
    rintro e w2 ⟨v, rfl, hn, hf⟩
    obtain ⟨b1, s1, rfl, hc⟩ := C1.out.err hf hn
    have C2 := hide hc
    clear hc hn hf C1
    go_wp2_with fail
    refine (rnew_nil _ n0 Hn.out).mono ?_
    rintro e w' ⟨rfl, rfl⟩
    have g1 := C2.out.sents.cell 1 h1
    simp only [gOf] at g1
    go_wp2_with fail
    refine (is_chain C2.out.sents h1 h1 (chain_of (b := b1) (s := s1) (C2.out.blk (by simp)))).mono ?_
    rintro e w' ⟨rfl, rfl⟩
    go_wp2_with fail
    go_ret
    exact ⟨rfl, C2.out.fr.below (by simp) (Nat.le_refl _)⟩
  obtain ⟨cn, rfl⟩ := Int.eq_ofNat_of_zero_le (a := n0) (by omega)
  have cn16 : cn ≤ 16 := by omega
  clear hn0
  go_wp2_with fail
  refine (new_ok C1.out.leW cn cn16).mono ?_
  rintro e w2 ⟨g, S1, rfl, hr, hf, hnew⟩
  have C2 := hide (C1.out.obj hf hnew fun b hb => (hr.lt b hb).1)
  rw [List.append_nil] at C2
  have R2 := hide hr
  clear hr hf hnew C1
  go_wp2_with fail
  refine (rnew_ok C2.out.leW cn cn16).mono ?_
  rintro e w3 ⟨g2, S2, rfl, hr, hf, hnew⟩
  have C3 := hide (C2.out.obj hf hnew fun b hb => (hr.lt b hb).1)
  have I0 : Hid (XI K w ad g g2 cn 0 w3) := hide (by
    have h := C3.out
    refine ⟨[0], S1, S2, by simp, R2.out.fr0 hf, hr, fun b hb hm => by have := hnew b hm; have := (R2.out.lt b hb).1; omega, ?_, HT.out⟩
    exact ⟨h.sents, by simp, fun b hb => h.lt b (by simp only [List.mem_append] at hb ⊢; exact hb.symm), h.fr, fun b hb => h.new b (by simp only [List.mem_append] at hb ⊢; exact hb.symm), h.le⟩)
  clear hr hf hnew C2 R2 C3 HT
  go_upto_block 0 with (fail)
  go_cut [8] (fun _ wr => XI K w ad g g2 cn 100 wr)
  case first =>
    go_wp2_with fail
    go_loopw [8] (fun s8 wr => ∃ (i : Nat), i ≤ 100 ∧ s8 = .int .i64 i ∧ XI K w ad g g2 cn i wr) (fun s8 _ => 100 - (intOf s8).toNat)
    case atStart => exact ⟨0, by omega, rfl, I0.out⟩
    case round =>
      clear I0
      obtain ⟨i, hi, rfl, hI⟩ := hrel
      by_cases hi1 : i < len
      · by_cases hi2 : i < 100
        · obtain ⟨⟨kind, am, aw, node, n⟩, ha⟩ : ∃ a, acts[i]? = some a := ⟨acts[i]'(by have := HR.out.2.1; omega), by simp⟩
          obtain ⟨bA, oA, rfl, hbA, hcA⟩ := HR.out.1.at_ encAct_len ha HR.out.2.1
          obtain ⟨ms, S1, S2, hms, hD⟩ := hI
          have hbw := hD.below
          have a0 := (hbw.cell (p := ⟨bA, oA + (i * 5 + 0), none⟩) hbA).trans (hcA 0 (.int .i64 kind) rfl)
          have a1 := (hbw.cell (p := ⟨bA, oA + (i * 5 + 1), none⟩) hbA).trans (hcA 1 (.int .u32 am) rfl)
          have a2 := (hbw.cell (p := ⟨bA, oA + (i * 5 + 2), none⟩) hbA).trans (hcA 2 (.int .u32 aw) rfl)
          have a3 := (hbw.cell (p := ⟨bA, oA + (i * 5 + 3), none⟩) hbA).trans (hcA 3 (.int .i64 node) rfl)
          have a4 := (hbw.cell (p := ⟨bA, oA + (i * 5 + 4), none⟩) hbA).trans (hcA 4 (.int .i64 n) rfl)
          rw [Nat.add_zero] at a0
          rw [← Nat.add_assoc] at a1 a2 a3 a4
          have i0 : (0 : Int) ≤ (i : Int) := by omega
          have i1 : (i : Int) < (len : Int) := by omega
          have hok := HR.out.2.2 _ (List.mem_of_getElem? ha)
          have D := hide (hD.alloc 51 #[.int .i64 kind, .int .u32 am, .int .u32 aw, .int .i64 node, .int .i64 n])
          clear hbw hD hcA ha hbA
          go_upto_block 2 with (fail)
          clear a0 a1 a2 a3 a4
          go_cut [8] (fun v8 wr' => v8 = .int .i64 i ∧ XI K w ad g g2 cn (i + 1) wr')
          case first =>
            by_cases hk1 : kind = 1
            · refine way1 hk1 hall h1 h7 hok.1 hok.2 hi2 hms D _ _ _ _ _ _ _ _ _ _ _ _ _ _ _ _ _ _ _ _ _ _ _ _ _ _ _ _ _ _ _ _ _ _ _ _ _ _ _ _ _ _ _ _ _ _ _ _ _ _ _ _ _ _ _ _ _ _ _ _ _ _ _ _ _ _ _ _ _ _ _ _ _ _ _ _ _ _ _ _ _ _ _ _ _ _ _ _ _ _ _ _ _ _ _ _ _ _ _ _ _ _ _ _ _ _ _ _ _ _ _ _ _ _ _ _ _ _ _ _ _ _ _ _ _ _ _ _ _ _ _ _ _ _ _ _ _ _ _ _ _ _ _ _ _ _ _ _ _ _ _ _ _ _ _ _ _ _ _ _ _ _ _ _ _ _ _ _ _ _ _ _ _ _ _ _ _ _ _ _ _ _ _ _ _ _ _ _ _ _ _ _ _ _ _ _ _ (hide ?_)
              intro v10 v11 v12 v13 v14 v15 v16 v17 v18 v19 v20 v21 v65 v66 v67 v68 v69 v70 v71 v72 v73 v74 v75 v76 v77 v78 v79 v80 v81 v82 v83 v84 v85 v86 v87 v88 v89 v90 v91 v92 v93 v94 v95 v96 v97 v98 v99 v100 v101 v102 v103 v104 v105 v106 v107 v108 v109 v110 v111 v112 v113 v114 v115 v116 v117 v118 v119 v120 v121 v122 v123 v124 v125 v126 v127 v128 v129 v130 v131 v132 v133 v134 v135 v136 v137 v138 v139 v140 v141 v142 v143 v144 v145 v146 v147 v148 v149 v150 v151 v152 v153 v154 v155 v156 v157 v158 v159 v160 v161 v162 v163 wr' hY
              clear hk1
              dsimp only
              go_wp2_with fail
              go_meet
              exact ⟨rfl, hY⟩
            by_cases hk2 : kind = 2
            · refine way2 hk2 hall h1 h7 hok.1 hok.2 hi2 hms D _ _ _ _ _ _ _ _ _ _ _ _ _ _ _ _ _ _ _ _ _ _ _ _ _ _ _ _ _ _ _ _ _ _ _ _ _ _ _ _ _ _ _ _ _ _ _ _ _ _ _ _ _ _ _ _ _ _ _ _ _ _ _ _ _ _ _ _ _ _ _ _ _ _ _ _ _ _ _ _ _ _ _ _ _ _ _ _ _ _ _ _ _ _ _ _ _ _ _ _ _ _ _ _ _ _ _ _ _ _ _ _ _ _ _ _ _ _ _ _ _ _ _ _ _ _ _ _ _ _ _ _ _ _ _ _ _ _ _ _ _ _ _ _ _ _ _ _ _ _ _ _ _ _ _ _ _ _ _ _ _ _ _ _ _ _ _ _ _ _ _ _ _ _ _ _ _ _ _ _ _ _ _ _ _ _ _ _ _ _ _ _ _ _ _ _ _ (hide ?_)
              intro v10 v11 v12 v13 v14 v15 v16 v17 v18 v19 v20 v21 v65 v66 v67 v68 v69 v70 v71 v72 v73 v74 v75 v76 v77 v78 v79 v80 v81 v82 v83 v84 v85 v86 v87 v88 v89 v90 v91 v92 v93 v94 v95 v96 v97 v98 v99 v100 v101 v102 v103 v104 v105 v106 v107 v108 v109 v110 v111 v112 v113 v114 v115 v116 v117 v118 v119 v120 v121 v122 v123 v124 v125 v126 v127 v128 v129 v130 v131 v132 v133 v134 v135 v136 v137 v138 v139 v140 v141 v142 v143 v144 v145 v146 v147 v148 v149 v150 v151 v152 v153 v154 v155 v156 v157 v158 v159 v160 v161 v162 v163 wr' hY
              clear hk1 hk2
              dsimp only
              go_wp2_with fail
              go_meet
              exact ⟨rfl, hY⟩
            by_cases hk3 : kind = 3
            · refine way3 hk3 hall h1 h7 hok.1 hok.2 hi2 hms D _ _ _ _ _ _ _ _ _ _ _ _ _ _ _ _ _ _ _ _ _ _ _ _ _ _ _ _ _ _ _ _ _ _ _ _ _ _ _ _ _ _ _ _ _ _ _ _ _ _ _ _ _ _ _ _ _ _ _ _ _ _ _ _ _ _ _ _ _ _ _ _ _ _ _ _ _ _ _ _ _ _ _ _ _ _ _ _ _ _ _ _ _ _ _ _ _ _ _ _ _ _ _ _ _ _ _ _ _ _ _ _ _ _ _ _ _ _ _ _ _ _ _ _ _ _ _ _ _ _ _ _ _ _ _ _ _ _ _ _ _ _ _ _ _ _ _ _ _ _ _ _ _ _ _ _ _ _ _ _ _ _ _ _ _ _ _ _ _ _ _ _ _ _ _ _ _ _ _ _ _ _ _ _ _ _ _ _ _ _ _ _ _ _ _ _ _ (hide ?_)
              intro v10 v11 v12 v13 v14 v15 v16 v17 v18 v19 v20 v21 v65 v66 v67 v68 v69 v70 v71 v72 v73 v74 v75 v76 v77 v78 v79 v80 v81 v82 v83 v84 v85 v86 v87 v88 v89 v90 v91 v92 v93 v94 v95 v96 v97 v98 v99 v100 v101 v102 v103 v104 v105 v106 v107 v108 v109 v110 v111 v112 v113 v114 v115 v116 v117 v118 v119 v120 v121 v122 v123 v124 v125 v126 v127 v128 v129 v130 v131 v132 v133 v134 v135 v136 v137 v138 v139 v140 v141 v142 v143 v144 v145 v146 v147 v148 v149 v150 v151 v152 v153 v154 v155 v156 v157 v158 v159 v160 v161 v162 v163 wr' hY
              clear hk1 hk2 hk3
              dsimp only
              go_wp2_with fail
              go_meet
              exact ⟨rfl, hY⟩
            by_cases hk4 : kind = 4
            · refine way4 hk4 hall h1 h7 hok.1 hok.2 hi2 hms D _ _ _ _ _ _ _ _ _ _ _ _ _ _ _ _ _ _ _ _ _ _ _ _ _ _ _ _ _ _ _ _ _ _ _ _ _ _ _ _ _ _ _ _ _ _ _ _ _ _ _ _ _ _ _ _ _ _ _ _ _ _ _ _ _ _ _ _ _ _ _ _ _ _ _ _ _ _ _ _ _ _ _ _ _ _ _ _ _ _ _ _ _ _ _ _ _ _ _ _ _ _ _ _ _ _ _ _ _ _ _ _ _ _ _ _ _ _ _ _ _ _ _ _ _ _ _ _ _ _ _ _ _ _ _ _ _ _ _ _ _ _ _ _ _ _ _ _ _ _ _ _ _ _ _ _ _ _ _ _ _ _ _ _ _ _ _ _ _ _ _ _ _ _ _ _ _ _ _ _ _ _ _ _ _ _ _ _ _ _ _ _ _ _ _ _ _ (hide ?_)
              intro v10 v11 v12 v13 v14 v15 v16 v17 v18 v19 v20 v21 v65 v66 v67 v68 v69 v70 v71 v72 v73 v74 v75 v76 v77 v78 v79 v80 v81 v82 v83 v84 v85 v86 v87 v88 v89 v90 v91 v92 v93 v94 v95 v96 v97 v98 v99 v100 v101 v102 v103 v104 v105 v106 v107 v108 v109 v110 v111 v112 v113 v114 v115 v116 v117 v118 v119 v120 v121 v122 v123 v124 v125 v126 v127 v128 v129 v130 v131 v132 v133 v134 v135 v136 v137 v138 v139 v140 v141 v142 v143 v144 v145 v146 v147 v148 v149 v150 v151 v152 v153 v154 v155 v156 v157 v158 v159 v160 v161 v162 v163 wr' hY
              clear hk1 hk2 hk3 hk4
              dsimp only
              go_wp2_with fail
              go_meet
              exact ⟨rfl, hY⟩
            refine way5 hk1 hk2 hk3 hk4 hall h1 h7 hok.1 hok.2 hi2 hms D _ _ _ _ _ _ _ _ _ _ _ _ _ _ _ _ _ _ _ _ _ _ _ _ _ _ _ _ _ _ _ _ _ _ _ _ _ _ _ _ _ _ _ _ _ _ _ _ _ _ _ _ _ _ _ _ _ _ _ _ _ _ _ _ _ _ _ _ _ _ _ _ _ _ _ _ _ _ _ _ _ _ _ _ _ _ _ _ _ _ _ _ _ _ _ _ _ _ _ _ _ _ _ _ _ _ _ _ _ _ _ _ _ _ _ _ _ _ _ _ _ _ _ _ _ _ _ _ _ _ _ _ _ _ _ _ _ _ _ _ _ _ _ _ _ _ _ _ _ _ _ _ _ _ _ _ _ _ _ _ _ _ _ _ _ _ _ _ _ _ _ _ _ _ _ _ _ _ _ _ _ _ _ _ _ _ _ _ _ _ _ _ _ _ _ _ _ (hide ?_)
            intro v10 v11 v12 v13 v14 v15 v16 v17 v18 v19 v20 v21 v65 v66 v67 v68 v69 v70 v71 v72 v73 v74 v75 v76 v77 v78 v79 v80 v81 v82 v83 v84 v85 v86 v87 v88 v89 v90 v91 v92 v93 v94 v95 v96 v97 v98 v99 v100 v101 v102 v103 v104 v105 v106 v107 v108 v109 v110 v111 v112 v113 v114 v115 v116 v117 v118 v119 v120 v121 v122 v123 v124 v125 v126 v127 v128 v129 v130 v131 v132 v133 v134 v135 v136 v137 v138 v139 v140 v141 v142 v143 v144 v145 v146 v147 v148 v149 v150 v151 v152 v153 v154 v155 v156 v157 v158 v159 v160 v161 v162 v163 wr' hY
            clear hk1 hk2 hk3 hk4
            dsimp only
            go_wp2_with fail
            go_meet
            exact ⟨rfl, hY⟩
          case rest =>
            clear D hok hms
            obtain ⟨rfl, ms', S1', S2', hms, hD⟩ := hcut
            obtain ⟨gL, cp, hg, -, -, -, -, -, -⟩ := hD.ref.form
            have g1 := hg.at_ 1 (v := .slice (some ⟨gL, 0, none⟩) ms'.length cp) rfl
            have lg := hg.lt
            have HD := hide (And.intro hD hms)
            have hlen' : ms'.length ≤ 5000 := by omega
            clear hD hg hms
            go_upto_region 32 with (fail)
            go_region_held3 (fun w' => w'.cell? ⟨g2, 1, none⟩ = some (.slice (some ⟨gL, 0, none⟩) ms'.length cp)) (go_keep)
              (first | (go_at_call 12; ((with_reducible refine (len_calls (HD.out.1.fr0 ((Fr.refl [] _).drew)).atl).mono ?_)); rintro e w' ⟨rfl, rfl⟩))
            go_wp2_with fail
            go_roundw
            case rel => exact ⟨i + 1, by omega, by go_num, ms', S1', S2', HD.out.2, HD.out.1.fr0 ((Fr.refl [] _).drew)⟩
            case measure => simp [intOf]; omega
        · go_wp2_with fail
          go_meet
          obtain ⟨ms, S1, S2, hms, hD⟩ := hI
          exact ⟨ms, S1, S2, by omega, hD⟩
      · go_wp2_with fail
        go_meet
        obtain ⟨ms, S1, S2, hms, hD⟩ := hI
        exact ⟨ms, S1, S2, by omega, hD⟩
  case rest =>
    obtain ⟨ms, S1, S2, hms, hD⟩ := hcut
    clear I0 HR
    have HI := hide hD
    clear hD
    have hml : ms.length ≤ 5000 := by omega
    go_wp2_with fail
    go_loopw [22] (fun s22 wr => ∃ (r : Nat), r ≤ ms.length ∧ s22 = .int .i64 r ∧ EI K w ad g g2 cn ms ms S1 S2 [] wr) (fun s22 _ => ms.length - (intOf s22).toNat)
    case atStart => exact ⟨0, by omega, rfl, HI.out⟩
    case round =>
      clear HI
      obtain ⟨r, hr, rfl, hI⟩ := hrel
      have HI := hide hI
      clear hI
      obtain ⟨gL, cp, hg, hrow, -, -, -, -, -⟩ := HI.out.ref.form
      have g1 := hg.at_ 1 (v := .slice (some ⟨gL, 0, none⟩) ms.length cp) rfl
      have lg := hg.lt
      by_cases hr1 : r < ms.length
      · obtain ⟨m, hm⟩ : ∃ m, ms[r]? = some m := ⟨_, List.getElem?_eq_getElem hr1⟩
        have k0 := row_cell hrow (i := r) (u := .int .u32 m) (by simp [msks, hm])
        have r0 : (0 : Int) ≤ (r : Int) := by omega
        have r1 : (r : Int) < (ms.length : Int) := by omega
        have HM := hide (mask_ok HI.out.atl hm (by omega))
        clear hg hrow hm
        go_wp2_with fail
        refine HM.out.mono ?_
        rintro e w' ⟨rfl, rfl⟩
        go_wp2_with fail
        go_roundw
        case rel => exact ⟨r + 1, by omega, by go_num, HI.out⟩
        case measure => simp [intOf]; omega
      · clear hg hrow
        go_wp2_with fail
        go_ret
        exact ⟨rfl, HI.out.below⟩
end Go.Proofs.YtclmmfkbkaldlaaDoor

/- RollAgain: the walk of the law. -/
import Derived.Test.YtghffjlgiclieaaDoorRollPure
import Derived.Deep.DeepCutAuto
import Derived.Deep.CutBlock
import Derived.Test.YtghffjlgiclieaaDoorAwake
import Derived.Test.YtghffjlgiclieaaDoorFrame
import Derived.Test.YtghffjlgiclieaaDoorRest
namespace Go.Proofs.YtghffjlgiclieaaDoor
open Go.RowKit

/-- a raw call: kind, index, generation, n -/
structure Act where
  kind : Int
  ei : Int
  eg : Int
  n : Int
def encAct (a : Act) : List Value := [.int .i64 a.kind, .int .i64 a.ei, .int .i64 a.eg, .int .i64 a.n]
theorem encAct_len : ∀ a, (encAct a).length = 4 := fun _ => rfl
def okAct (a : Act) : Prop := (-9223372036854775808 ≤ a.kind ∧ a.kind ≤ 9223372036854775807) ∧ (-9223372036854775808 ≤ a.ei ∧ a.ei ≤ 9223372036854775807) ∧ (-9223372036854775808 ≤ a.eg ∧ a.eg ≤ 9223372036854775807) ∧ (-9223372036854775808 ≤ a.n ∧ a.n ≤ 9223372036854775807)

set_option maxRecDepth 100000 in
set_option maxHeartbeats 8000000 in
theorem again_walk {K : List Nat} {w : World} {ad : Nat → Addr} (hs : Sents K w.heap.size w ad) (h1 : 1 ∈ K) (h6 : 6 ∈ K) (h17 : 17 ∈ K) (n0 : Int) (A : Option Addr) (len c : Nat) (acts : List Act) (hl : acts.length = len) (hlen : len ≤ maxLen)
    (hr : Reads w w.heap.size 4 A len (acts.flatMap encAct)) (hok : ∀ a ∈ acts, okAct a) :
    Calls Tryd.prog 3 #[.int .i64 n0, .slice A len c] w fun e w' => e = .returned (.bool true) ∧ Below w.heap.size w w' := by
  unfold maxLen at hlen
  have C := hide (Cx.start hs)
  have Ha := hide (awake_calls hs h1 h6 h17)
  have Hr := hide hr
  have Hok := hide hok
  have Hl := hide hl
  clear hs hr hok hl
  go_enter Tryd.func3, Tryd.ntmps3
  go_wp2_with fail
  refine Ha.out.mono ?_
  rintro e w1 ⟨rfl, hf⟩
  have C1 := hide (C.out.fr0 hf)
  clear hf C Ha
  go_wp2_with fail
  obtain ⟨n, hn, hn65⟩ := umod n0 65 (by omega) (by omega)
  rw [show ((65 : Nat) : Int) = 65 from rfl] at hn
  rw [hn]
  clear hn
  refine (new_ok C1.out.leW n (by omega)).mono ?_
  rintro e w2 ⟨g, S2, rfl, hr, hf, hnew⟩
  have C2 := hide (C1.out.obj hf hnew fun b hb => (hr.lt b hb).1)
  rw [List.append_nil] at C2
  have R2 := hide hr
  clear hr hf hnew C1
  go_upto_block 0 with (fail)
  go_cut [6] (fun v6 wr => v6 = .pointer (some ⟨g, 0, none⟩) ∧ ∃ (ps : List (Int × Bool)) (row : List Nat) (S : List Nat), RInv n ps row 200 ∧ RollR w.heap.size wr g ps row S ∧ Cx K w.heap.size ad w wr S [])
  case first =>
    go_wp2_with fail
    go_loopw [8] (fun s8 wr => ∃ (k : Nat) (ps : List (Int × Bool)) (row : List Nat) (S : List Nat), k ≤ 200 ∧ s8 = .int .i64 k ∧ RInv n ps row k ∧ RollR w.heap.size wr g ps row S ∧ Cx K w.heap.size ad w wr S []) (fun s8 _ => 200 - (intOf s8).toNat)
    case atStart => exact ⟨0, _, _, S2, by omega, rfl, RInv.start n, R2.out, C2.out⟩
    case round =>
      obtain ⟨k, ps, row, S, hk, rfl, hi, hR, hC⟩ := hrel
      have H := hide (And.intro hi (And.intro hR hC))
      clear hi hR hC C2 R2
      by_cases hk1 : k < len
      · by_cases hk2 : k < 200
        · obtain ⟨a, ha⟩ : ∃ a, acts[k]? = some a := ⟨acts[k]'(by have := Hl.out; omega), by simp⟩
          obtain ⟨bA, oA, rfl, hbA, hcA⟩ := Hr.out.at_ encAct_len ha Hl.out
          have hbw := H.out.2.2.fr.below (B := w.heap.size) (by simp) (Nat.le_refl _)
          have a0 := (hbw.cell (p := ⟨bA, oA + (k * 4 + 0), none⟩) hbA).trans (hcA 0 (.int .i64 a.kind) rfl)
          have a3 := (hbw.cell (p := ⟨bA, oA + (k * 4 + 3), none⟩) hbA).trans (hcA 3 (.int .i64 a.n) rfl)
          rw [Nat.add_zero] at a0
          rw [← Nat.add_assoc] at a3
          have Hb := hide hbw
          have Hc := hide hcA
          clear hbw hcA ha
          by_cases hkd : a.kind = 1
          · have hkb : (a.kind == 1) = true := by simp [hkd]
            clear hkd
            go_wp2_with fail
            obtain ⟨hi, hR, hC⟩ := H.out
            rcases List.eq_nil_or_concat row with rfl | ⟨row', i, rfl⟩
            · refine (take_full hC.sents h6 hR).mono ?_
              rintro e w3 ⟨v, rfl, hn, hf⟩
              have G := hide (And.intro hi (And.intro (hR.fr hf (by simp)) (hC.fr0 hf)))
              clear hi hR hC hn hf
              go_wp2_with fail
              go_roundw
              case rel => exact ⟨k + 1, ps, [], S, by omega, by go_num, G.out.1.mono (by omega), G.out.2.1, G.out.2.2⟩
              case measure => simp [intOf]; omega
            · rw [List.concat_eq_append] at hi hR
              obtain ⟨gg, hg1, hg0, hgb, hin⟩ := hi.last
              refine (take_ok hR hg1 hg0 (by omega)).mono ?_
              rintro e w3 ⟨rfl, hR', hf⟩
              have G := hide (And.intro (hi.take hg1) (And.intro hR' (hC.same hf)))
              clear hi hR hC hR' hf hg1
              go_wp2_with fail
              go_roundw
              case rel => exact ⟨k + 1, _, row', S, by omega, by go_num, G.out.1, G.out.2.1, G.out.2.2⟩
              case measure => simp [intOf]; omega
          · have hkb : (a.kind == 1) = false := by simp [hkd]
            clear hkd
            go_wp2_with fail
            obtain ⟨hi, hR, hC⟩ := H.out
            refine (list_calls hR hC.leW (by have := hi.len; omega)).mono ?_
            rintro e w3 ⟨v, rfl, hl, hf, hv⟩
            have hle := listOf_le ps
            have hps := hi.len
            have hC3 := hC.fr0 hf
            have hR3 := hR.fr hf (by simp)
            have b0 := (hf.cell (p := ⟨bA, oA + k * 4, none⟩) (Nat.lt_of_lt_of_le hbA hC.fr.size) (by simp)).trans a0
            have b3 := (hf.cell (p := ⟨bA, oA + k * 4 + 3, none⟩) (Nat.lt_of_lt_of_le hbA hC.fr.size) (by simp)).trans a3
            have hm65 : (listOf ps).length < 65 := by omega
            have G := hide (And.intro hi (And.intro hR3 (And.intro hC3 hl)))
            clear hR hC hf hv hC3 hR3 hi hps hle
            rcases row_form hl with ⟨rfl, h0, _⟩ | ⟨gl, cl, rfl, _, lgl, hcl, _⟩
            · clear hl h0
              go_wp2_with fail
              go_roundw
              case rel => exact ⟨k + 1, ps, row, S, by omega, by go_num, G.out.1.mono (by omega), G.out.2.1, G.out.2.2.1⟩
              case measure => simp [intOf]; omega
            · rcases Nat.eq_zero_or_pos (listOf ps).length with h0 | h0
              · rw [h0]
                clear hl h0
                go_wp2_with fail
                go_roundw
                case rel => exact ⟨k + 1, ps, row, S, by omega, by go_num, G.out.1.mono (by omega), G.out.2.1, G.out.2.2.1⟩
                case measure => simp [intOf]; omega
              · obtain ⟨u, hu, _⟩ := u64_nat a.n
                obtain ⟨m, hm⟩ : ∃ m, m = (listOf ps).length := ⟨_, rfl⟩
                have hj : u % m < m := Nat.mod_lt _ (by omega)
                obtain ⟨⟨ei, eg⟩, he⟩ : ∃ e, (listOf ps)[u % m]? = some e := ⟨(listOf ps)[u % m]'(by omega), by simp⟩
                have e0 := row_cell hl (i := u % m * 2 + 0) (u := .int .i64 ei) (by rw [flat_get encE_len he 0 (by omega)]; rfl)
                have e1 := row_cell hl (i := u % m * 2 + 1) (u := .int .i64 eg) (by rw [flat_get encE_len he 1 (by omega)]; rfl)
                rw [Nat.add_zero] at e0
                have hal := listOf_mem.1 (List.mem_of_getElem? he)
                have HA := hide (And.intro hal hm)
                rw [← hm]
                rw [← hm] at h0 hm65 hcl
                have hj' : (u : Int) % (m : Int) < m := by omega
                have hj0 : 0 ≤ (u : Int) % (m : Int) := by omega
                clear hl he hal hm
                go_wp2_with fail
                obtain ⟨hi, hR, hC, _⟩ := G.out
                refine (free_ok hR hC.leW HA.out.1 (by have := hi.len; omega) (by have := hi.cnt; have := hi.len; omega)).mono ?_
                rintro e w4 ⟨rfl, S', hR', hst⟩
                have G2 := hide (And.intro (hi.free HA.out.1) (And.intro hR' (hC.stp hst fun b hb => (hR'.lt b hb).1)))
                clear hi hR hC hR' hst
                go_wp2_with fail
                go_roundw
                case rel => exact ⟨k + 1, _, _, S', by omega, by go_num, G2.out.1.mono (by omega), G2.out.2.1, G2.out.2.2⟩
                case measure => simp [intOf]; omega
        · go_wp2_with fail
          go_meet
          exact ⟨rfl, ps, row, S, H.out.1.mono (by omega), H.out.2.1, H.out.2.2⟩
      · go_wp2_with fail
        go_meet
        exact ⟨rfl, ps, row, S, H.out.1.mono (by omega), H.out.2.1, H.out.2.2⟩
  case rest =>
    obtain ⟨rfl, ps, row, S, hi, hR, hC⟩ := hcut
    clear C2 R2 Hr Hok Hl
    have hcnt := hi.cnt
    have hlen' := hi.len
    have H := hide (And.intro hi (And.intro hR hC))
    clear hi hR hC
    go_wp2_with fail
    refine (count_calls H.out.2.1 (by omega) (by omega)).mono ?_
    rintro e w3 ⟨rfl, hf⟩
    have H3 := hide (And.intro H.out.1 (And.intro (H.out.2.1.fr hf (by simp)) (H.out.2.2.fr0 hf)))
    have hrl : row.length ≤ n := by omega
    rw [hlen']
    clear H hf hcnt hlen'
    go_wp2_with fail
    go_loopw [10] (fun s10 wr => ∃ (ps : List (Int × Bool)) (row : List Nat) (S : List Nat), row.length ≤ n ∧ s10 = .int .i64 ((n : Int) - row.length) ∧ RInv n ps row (265 - row.length) ∧ RollR w.heap.size wr g ps row S ∧ Cx K w.heap.size ad w wr S []) (fun s10 _ => (n - intOf s10).toNat)
    case atStart => exact ⟨ps, row, S, hrl, rfl, H3.out.1.mono (by omega), H3.out.2.1, H3.out.2.2⟩
    case round =>
      clear H3 hrl
      obtain ⟨ps, row, S, hrl, rfl, hi, hR, hC⟩ := hrel
      rcases List.eq_nil_or_concat row with rfl | ⟨row', i, rfl⟩
      · have H := hide (And.intro hi (And.intro hR hC))
        have hn' := hi.len
        clear hi hR hC hrl
        have hlt : ¬ (n : Int) - (([] : List Nat).length : Int) < n := by simp
        go_wp2_with fail
        refine (take_full H.out.2.2.sents h6 H.out.2.1).mono ?_
        rintro e w4 ⟨v, rfl, hn4, hf⟩
        obtain ⟨b1, s1, rfl, hc⟩ := H.out.2.2.err hf hn4
        have G := hide (And.intro ((H.out.2.1.fr hf (by simp)).alloc (.cells #[.int .i64 0, .int .i64 0] 31)) (hc.alloc 31 #[.int .i64 0, .int .i64 0]))
        clear hn4 hc hf
        go_wp2_with fail
        refine (list_calls G.out.1 G.out.2.leW (by omega)).mono ?_
        rintro e w5 ⟨v, rfl, hl, hf, hv⟩
        have hal := H.out.1.alive
        have hll : (listOf ps).length = n := by
          have := H.out.1.cnt
          rw [listOf_len]
          simpa using this
        have hb0 := H.out.1.gen
        have G2 := hide (And.intro (G.out.1.fr hf (by simp)) (And.intro (G.out.2.fr0 hf).none hl))
        have Hp := hide (And.intro hal (And.intro hb0 hll))
        have hll' := hll
        clear G hf H hal hb0 hv
        rw [hll] at hl
        rcases row_form hl with ⟨rfl, h0, _⟩ | ⟨gl, cl, rfl, _, lgl, hcl, _⟩
        · have hn0 : n = 0 := h0
          clear hl hll' hll
          subst hn0
          go_wp2_with fail
          go_loopw [16] (fun s16 wr => s16 = .int .i64 0 ∧ w5 = wr) (fun _ _ => 0)
          case atStart => exact ⟨rfl, rfl⟩
          case round =>
            obtain ⟨rfl, rfl⟩ := hrel
            go_wp2_with fail
            go_ret
            exact ⟨rfl, G2.out.2.1.fr.below (by simp) (Nat.le_refl _)⟩
        · clear hl hll'
          go_wp2_with fail
          go_loopw [16] (fun s16 wr => ∃ k : Nat, k ≤ n ∧ s16 = .int .i64 k ∧ RollR w.heap.size wr g ps [] S ∧ Cx K w.heap.size ad w wr S [] ∧ wr.ownsRow w.heap.size 31 2 (.slice (some ⟨gl, 0, none⟩) n cl) n ((listOf ps).flatMap encE)) (fun s16 _ => n - (intOf s16).toNat)
          case atStart => exact ⟨0, by omega, rfl, G2.out.1, G2.out.2.1, by have := G2.out.2.2; rwa [Hp.out.2.2] at this⟩
          case round =>
            clear G2
            obtain ⟨k, hk, rfl, hR, hC, hl⟩ := hrel
            by_cases hlt : k < n
            · obtain ⟨gk, hgk⟩ : ∃ gk, ps[k]? = some (gk, true) := by
                have hx : ps[k]? = some (ps[k]'(by omega)) := by simp
                refine ⟨(ps[k]'(by omega)).1, ?_⟩
                rw [hx, ← Hp.out.1 k _ hx]
              have hbk := Hp.out.2.1 k gk true hgk
              have he : (listOf ps)[k]? = some (k, gk) := by rw [listOf_all Hp.out.1, hgk]; rfl
              have e0 := row_cell hl (i := k * 2 + 0) (u := .int .i64 k) (by rw [flat_get encE_len he 0 (by omega)]; rfl)
              have e1 := row_cell hl (i := k * 2 + 1) (u := .int .i64 gk) (by rw [flat_get encE_len he 1 (by omega)]; rfl)
              rw [Nat.add_zero] at e0
              have hal : aliveB ps k gk = true := by simp [aliveB, hgk]
              have hal2 : aliveB ps k (gk - 1) = false := by simp [aliveB, hgk]; omega
              have Hal := hide (And.intro hal hal2)
              have H := hide (And.intro hR (And.intro hC hl))
              have hgk1 : 1 ≤ gk := hbk.2.2 rfl
              have hgk2 : gk ≤ 265 := by simpa using hbk.2.1
              clear hR hC hl he hal hal2 hgk hbk
              go_wp2_with fail
              refine (alive_calls H.out.1 (by omega) k gk).mono ?_
              rw [Hal.out.1]
              rintro e w6 ⟨rfl, hf⟩
              have hR6 := H.out.1.fr hf (by simp)
              have hC6 := H.out.2.1.fr0 hf
              have hl6 := row_fr H.out.2.2 hf (by simp)
              have f0 := (hf.cell (p := ⟨gl, k * 2, none⟩) (World.block_lt_of_cell? _ _ e0) (by simp)).trans e0
              have f1 := (hf.cell (p := ⟨gl, k * 2 + 1, none⟩) (World.block_lt_of_cell? _ _ e1) (by simp)).trans e1
              have H6 := hide (And.intro hR6 (And.intro hC6 hl6))
              clear hR6 hC6 hl6 hf H e0 e1
              go_wp2_with fail
              refine (alive_calls H6.out.1 (by omega) k (gk - 1)).mono ?_
              rw [Hal.out.2]
              rintro e w7 ⟨rfl, hf⟩
              have H7 := hide (And.intro (H6.out.1.fr hf (by simp)) (And.intro (H6.out.2.1.fr0 hf) (row_fr H6.out.2.2 hf (by simp))))
              clear H6 hf
              go_wp2_with fail
              go_roundw
              case rel => exact ⟨k + 1, by omega, by go_num, H7.out.1, H7.out.2.1, H7.out.2.2⟩
              case measure => simp [intOf]; omega
            · have hkn : k = n := by omega
              subst hkn
              have Hf := hide (hC.fr.below (B := w.heap.size) (by simp) (Nat.le_refl _))
              clear hR hC hl hlt
              go_wp2_with fail
              go_ret
              exact ⟨rfl, Hf.out⟩
      · rw [List.concat_eq_append] at hi hR hrl
        rw [List.concat_eq_append]
        obtain ⟨gg, hg1, hg0, hgb, hin⟩ := hi.last
        rw [List.length_append] at hrl hgb
        simp only [List.length_cons, List.length_nil, Nat.zero_add] at hrl hgb
        rw [List.length_append, List.length_cons, List.length_nil, Nat.zero_add]
        have Hi := hide (hi.take hg1)
        have H := hide (And.intro hR (And.intro hC hg1))
        clear hi hR hC hg1
        have hlt : (n : Int) - ((row'.length + 1 : Nat) : Int) < n := by omega
        go_wp2_with fail
        obtain ⟨hR, hC, hg1⟩ := H.out
        refine (take_ok hR hg1 hg0 (by omega)).mono ?_
        rintro e w4 ⟨rfl, hR', hf⟩
        have G := hide (And.intro (hR'.alloc (.cells #[.int .i64 i, .int .i64 (gg + 1)] 31)) ((hC.same hf).alloc 31 #[.int .i64 i, .int .i64 (gg + 1)]))
        have hal : aliveB (ps.set i (gg + 1, true)) i (gg + 1) = true := by
          have hil : i < ps.length := (List.getElem?_eq_some_iff.1 hg1).1
          simp [aliveB, hil]
        have Hal := hide hal
        have hn' := Hi.out.len
        clear hR hC hg1 hR' hf hal
        go_wp2_with fail
        refine (alive_calls G.out.1 (by omega) i (gg + 1)).mono ?_
        rw [Hal.out]
        rintro e w5 ⟨rfl, hf⟩
        have G2 := hide (And.intro (G.out.1.fr hf (by simp)) (G.out.2.fr0 hf))
        clear hf G
        go_wp2_with fail
        go_roundw
        case rel =>
          refine ⟨_, row', S, by omega, by go_num, Hi.out.mono (by rw [List.length_append, List.length_cons, List.length_nil]; omega), G2.out.1, G2.out.2.none⟩
        case measure => simp [intOf]; omega
end Go.Proofs.YtghffjlgiclieaaDoor

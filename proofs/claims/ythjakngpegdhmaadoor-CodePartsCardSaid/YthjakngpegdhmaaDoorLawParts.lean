/- CodeParts: the walk of the law. -/
import Derived.Test.YthjakngpegdhmaaDoorEnv
import Derived.Test.YthjakngpegdhmaaDoorInsArg
namespace Go.Proofs.YthjakngpegdhmaaDoor
open Go.RowKit

theorem infoInstr : (Tryd.prog.info? 50).map (fun i => (i.zero, i.size, i.bytes)) = some (some (.agg #[.int .i64 0, .int .i64 0, .int .i64 0]), 3, 24) := by kernel_rfl
theorem reads_row {w : World} {B g n cap : Nat} {xs : List Value} (h : w.ownsRow B 50 3 (.slice (some ⟨g, 0, none⟩) n cap) n xs) : Reads w w.heap.size 3 (some ⟨g, 0, none⟩) n xs :=
  ⟨row_len h, fun _ => ⟨g, 0, rfl, (row_lt h rfl).1, fun j u hu => by rw [Nat.zero_add]; exact row_cell h hu⟩⟩
def pre (n : Nat) (L : List Ins) (i : Nat) : List Ins := List.replicate n nopI ++ (L.take i).map (shiftI n)
theorem pre_snoc {n i : Nat} {L : List Ins} {x : Ins} (hx : L[i]? = some x) : (pre n L (i + 1)).flatMap encIns = (pre n L i).flatMap encIns ++ encIns (shiftI n x) := by
  unfold pre
  rw [List.take_add_one, hx]
  simp
theorem pre_all {n : Nat} {L : List Ins} : (pre n L L.length).flatMap encIns ++ encIns haltI = (moreL n L).flatMap encIns := by
  unfold pre moreL
  rw [List.take_length]
  simp
theorem nop_snoc (i : Nat) : (List.replicate (i + 1) nopI).flatMap encIns = (List.replicate i nopI).flatMap encIns ++ encIns nopI := by
  rw [List.replicate_succ']
  simp
set_option maxRecDepth 100000 in
set_option maxHeartbeats 16000000 in
theorem parts_walk {K : List Nat} {ad : Nat → Addr} {w : World} (E : Env K ad w) {A : Option Addr} {len c : Nat} {L : List Ins} (hln : L.length = len) (hn : len ≤ maxLen) (hr : Reads w w.heap.size 3 A len (L.flatMap encIns)) (many : Int) :
    Calls Tryd.prog 7 #[.slice A len c, .int .i64 many] w fun e w' => e = .returned (.bool true) ∧ Below w.heap.size w w' := by
  unfold maxLen at hn
  obtain ⟨i9, hi9, hz9, hs9, hb9⟩ := info_parts infoInstr
  have HA := hide E.awake
  have H0 := hide (And.intro E (And.intro hr hln))
  clear hr hln E
  obtain ⟨ua, hua, -⟩ := u64_nat many
  have hn21 : ua % 21 < 21 := Nat.mod_lt _ (by omega)
  have nz : (21 : Int) ≠ 0 := by omega
  have ea : (ua : Int) % 21 = ((ua % 21 : Nat) : Int) := by omega
  generalize ua % 21 = n at *
  by_cases h30 : 30 < len
  · have k30 : (30 : Int) < (len : Int) := by omega
    go_enter Tryd.func7, Tryd.ntmps7
    go_wp2_with fail
    refine HA.out.mono ?_
    rintro e w1 ⟨rfl, hf⟩
    have Hf := hide hf
    clear hf
    go_wp2_with fail
    go_ret
    exact ⟨rfl, Hf.out.below (by simp) (Nat.le_refl _)⟩
  have k30 : ¬ (30 : Int) < (len : Int) := by omega
  go_enter Tryd.func7, Tryd.ntmps7
  go_wp2_with fail
  refine HA.out.mono ?_
  rintro e w1 ⟨rfl, hf1⟩
  have Hf1 := hide hf1
  clear hf1 HA
  go_wp2_with fail
  have hG0 : (w1.alloc (.cells #[] 50)).ownsRow w.heap.size 50 3 (.slice (some ⟨w1.heap.size, 0, none⟩) 0 0) 0 ((List.replicate 0 nopI).flatMap encIns) :=
    row_mk (Blk.new w1 50 #[]) Hf1.out.size (Nat.le_refl _) (by simp [maxLen]) rfl rfl
  have H1 := hide (And.intro hG0 (Hf1.out.alloc (.cells #[] 50)))
  clear hG0 Hf1 hua ea nz
  go_loopw [6, 7] (fun s6 s7 wr => ∃ i : Nat, i ≤ n ∧ s7 = .int .i64 i ∧ wr.ownsRow w.heap.size 50 3 s6 i ((List.replicate i nopI).flatMap encIns) ∧ Fr [] w wr) (fun _ s7 _ => n - (intOf s7).toNat)
  case atStart => exact ⟨0, by omega, rfl, H1.out⟩
  case round =>
    clear H1
    obtain ⟨i, hi, rfl, hR, hf⟩ := hrel
    by_cases hin : i < n
    · have i1 : (i : Int) < (n : Int) := by omega
      have H := hide (And.intro hR hf)
      have hwr := hf.size
      clear hR hf
      go_wp2_with (at_builtin; refine wpList_append_lies _ rfl _ _ _ rfl w.heap.size 50 i9 _ 3 24 Tryd.underlying36 hi9 hz9 hs9 hb9 rfl (by omega) (u6) (i) ((List.replicate i nopI).flatMap encIns) rfl ((H.out.1.alloc _)) ⟨wr.heap.size, 0, none⟩ 1 1 [.int .i64 0, .int .i64 0, .int .i64 0] rfl rfl (World.news_of_block (cs := #[.int .i64 0, .int .i64 0, .int .i64 0]) (t := 50) (fr := (0, 0)) (Blk.new_at _ _ _ _ (by simp))) (by simp [Value.oneCell']) (by omega) (by unfold maxLen; omega) (by omega) (by simp; omega) (wr.heap.size + 1) (by simp) ?_; intro ag9 ac9 aw9 aown9 agrow9 aat9 alt9)
      go_roundw
      case rel =>
        refine ⟨i + 1, by omega, by go_num, ?_, (H.out.2.alloc _).grown agrow9 (fun b hb => .inr (row_lt H.out.1 hb).2)⟩
        rw [nop_snoc]
        exact aown9
      case measure => simp [intOf]; omega
    · obtain rfl : i = n := by omega
      have H := hide (And.intro hR hf)
      clear hR hf
      go_wp2_with fail
      go_loopw [6, 8] (fun s6 s8 wr => ∃ q : Nat, q ≤ len ∧ s8 = .int .i64 q ∧ wr.ownsRow w.heap.size 50 3 s6 (i + q) ((pre i L q).flatMap encIns) ∧ (∀ x ∈ L.take q, inJ len x) ∧ Fr [] w wr) (fun _ s8 _ => len - (intOf s8).toNat)
      case atStart => exact ⟨0, by omega, rfl, by unfold pre; rw [List.take_zero]; simpa using H.out.1, by simp, H.out.2⟩
      case round =>
        clear H
        obtain ⟨q, hq, rfl, hR, hJ, hf⟩ := hrel
        have H := hide (And.intro hR (And.intro hJ hf))
        have hwr := hf.size
        clear hR hJ hf
        by_cases hql : q < len
        · have i1 : (q : Int) < (len : Int) := by omega
          obtain ⟨x, hx⟩ : ∃ x, L[q]? = some x := ⟨_, List.getElem?_eq_getElem (by rw [H0.out.2.2]; omega)⟩
          obtain ⟨bA, oA, rfl, hbA, a0, a1, a2⟩ := ins_get (H0.out.2.1.up H.out.2.2) H0.out.2.2 hx
          have HX := hide hx
          clear hx
          by_cases hj : isJ x.op
          · by_cases hin : 0 ≤ x.a ∧ x.a ≤ len
            · have hsx : shiftI i x = ⟨x.op, x.a + i, x.b⟩ := if_pos hj
              have Hsx := hide hsx
              obtain ⟨g0, g1⟩ := hin
              have hJx : Hid (∀ y ∈ L.take (q + 1), inJ len y) := hide (by
                rw [List.take_add_one, HX.out]
                intro y hy
                rcases List.mem_append.mp hy with hy | hy
                · exact H.out.2.1 y hy
                · obtain rfl : y = x := by simpa using hy
                  exact fun _ => ⟨g0, g1⟩)
              have g1' : ¬ (len : Int) < x.a := by omega
              clear hsx
              obtain ⟨op, ia, ib⟩ := x
              simp only at a0 a1 a2 g0 g1 Hsx hj
              rcases hj with rfl | rfl
              · go_wp2_with (at_builtin; refine wpList_append_lies _ rfl _ _ _ rfl w.heap.size 50 i9 _ 3 24 Tryd.underlying36 hi9 hz9 hs9 hb9 rfl (by omega) (u6) (i + q) ((pre i L q).flatMap encIns) rfl (((H.out.1.alloc _).alloc _)) ⟨wr.heap.size + 1, 0, none⟩ 1 1 [.int .i64 20, .int .i64 (ia + i), .int .i64 ib] rfl rfl (World.news_of_block (cs := #[.int .i64 20, .int .i64 (ia + i), .int .i64 ib]) (t := 50) (fr := (0, 0)) (Blk.new_at _ _ _ _ (by simp))) (by simp [Value.oneCell']) (by omega) (by unfold maxLen; omega) (by omega) (by simp; omega) (wr.heap.size + 1 + 1) (by simp) ?_; intro ag9 ac9 aw9 aown9 agrow9 aat9 alt9)
                go_roundw
                case rel =>
                  refine ⟨q + 1, by omega, by go_num, ?_, hJx.out, ((H.out.2.2.alloc _).alloc _).grown agrow9 (fun b hb => .inr (row_lt H.out.1 hb).2)⟩
                  rw [pre_snoc HX.out, Hsx.out]
                  exact aown9
                case measure => simp [intOf]; omega
              · go_wp2_with (at_builtin; refine wpList_append_lies _ rfl _ _ _ rfl w.heap.size 50 i9 _ 3 24 Tryd.underlying36 hi9 hz9 hs9 hb9 rfl (by omega) (u6) (i + q) ((pre i L q).flatMap encIns) rfl (((H.out.1.alloc _).alloc _)) ⟨wr.heap.size + 1, 0, none⟩ 1 1 [.int .i64 21, .int .i64 (ia + i), .int .i64 ib] rfl rfl (World.news_of_block (cs := #[.int .i64 21, .int .i64 (ia + i), .int .i64 ib]) (t := 50) (fr := (0, 0)) (Blk.new_at _ _ _ _ (by simp))) (by simp [Value.oneCell']) (by omega) (by unfold maxLen; omega) (by omega) (by simp; omega) (wr.heap.size + 1 + 1) (by simp) ?_; intro ag9 ac9 aw9 aown9 agrow9 aat9 alt9)
                go_roundw
                case rel =>
                  refine ⟨q + 1, by omega, by go_num, ?_, hJx.out, ((H.out.2.2.alloc _).alloc _).grown agrow9 (fun b hb => .inr (row_lt H.out.1 hb).2)⟩
                  rw [pre_snoc HX.out, Hsx.out]
                  exact aown9
                case measure => simp [intOf]; omega
            · have hin' : x.a < 0 ∨ (len : Int) < x.a := by omega
              clear hin
              obtain ⟨op, ia, ib⟩ := x
              simp only at a0 a1 a2 hin' hj
              rcases hin' with hlo | hhi
              · rcases hj with rfl | rfl
                all_goals
                  go_wp2_with fail
                  go_ret
                  exact ⟨rfl, (H.out.2.2.alloc _).below (by simp) (Nat.le_refl _)⟩
              · have hlo : ¬ ia < 0 := by omega
                rcases hj with rfl | rfl
                all_goals
                  go_wp2_with fail
                  go_ret
                  exact ⟨rfl, (H.out.2.2.alloc _).below (by simp) (Nat.le_refl _)⟩
          · have hsx : shiftI i x = x := if_neg hj
            have Hsx := hide hsx
            have hJx : Hid (∀ y ∈ L.take (q + 1), inJ len y) := hide (by
              rw [List.take_add_one, HX.out]
              intro y hy
              rcases List.mem_append.mp hy with hy | hy
              · exact H.out.2.1 y hy
              · obtain rfl : y = x := by simpa using hy
                exact fun h => absurd h hj)
            have h20 : (x.op == 20) = false := by
              simp only [beq_eq_false_iff_ne]
              exact fun h => hj (.inl h)
            have h21 : (x.op == 21) = false := by
              simp only [beq_eq_false_iff_ne]
              exact fun h => hj (.inr h)
            clear hsx hj
            obtain ⟨op, ia, ib⟩ := x
            simp only at a0 a1 a2 Hsx h20 h21
            go_wp2_with (at_builtin; refine wpList_append_lies _ rfl _ _ _ rfl w.heap.size 50 i9 _ 3 24 Tryd.underlying36 hi9 hz9 hs9 hb9 rfl (by omega) (u6) (i + q) ((pre i L q).flatMap encIns) rfl (((H.out.1.alloc _).alloc _)) ⟨wr.heap.size + 1, 0, none⟩ 1 1 [.int .i64 op, .int .i64 ia, .int .i64 ib] rfl rfl (World.news_of_block (cs := #[.int .i64 op, .int .i64 ia, .int .i64 ib]) (t := 50) (fr := (0, 0)) (Blk.new_at _ _ _ _ (by simp))) (by simp [Value.oneCell']) (by omega) (by unfold maxLen; omega) (by omega) (by simp; omega) (wr.heap.size + 1 + 1) (by simp) ?_; intro ag9 ac9 aw9 aown9 agrow9 aat9 alt9)
            go_roundw
            case rel =>
              refine ⟨q + 1, by omega, by go_num, ?_, hJx.out, ((H.out.2.2.alloc _).alloc _).grown agrow9 (fun b hb => .inr (row_lt H.out.1 hb).2)⟩
              rw [pre_snoc HX.out, Hsx.out]
              exact aown9
            case measure => simp [intOf]; omega
        · obtain rfl : q = len := by omega
          have hL : L.length = q := H0.out.2.2
          have hJ : ∀ x ∈ L, inJ L.length x := by
            have := H.out.2.1
            rw [List.take_of_length_le (by omega)] at this
            rw [hL]; exact this
          have hiff := hide (parts_ok (n := i) (by omega) (by omega) hJ)
          have Hpa := hide (pre_all (n := i) (L := L))
          rw [hL] at Hpa
          have HL := hide hL
          clear hJ hL
          go_wp2_with (at_builtin; refine wpList_append_lies _ rfl _ _ _ rfl w.heap.size 50 i9 _ 3 24 Tryd.underlying36 hi9 hz9 hs9 hb9 rfl (by omega) (u6) (i + q) ((pre i L q).flatMap encIns) rfl ((H.out.1.alloc _)) ⟨wr.heap.size, 0, none⟩ 1 1 [.int .i64 35, .int .i64 0, .int .i64 0] rfl rfl (World.news_of_block (cs := #[.int .i64 35, .int .i64 0, .int .i64 0]) (t := 50) (fr := (0, 0)) (Blk.new_at _ _ _ _ (by simp))) (by simp [Value.oneCell']) (by omega) (by unfold maxLen; omega) (by omega) (by simp; omega) (wr.heap.size + 1) (by simp) ?_; intro ag9 ac9 aw9 aown9 agrow9 aat9 alt9)
          have HM := hide (And.intro (show aw9.ownsRow w.heap.size 50 3 (.slice (some ⟨ag9, 0, none⟩) (i + q + 1) ac9) (i + q + 1) ((moreL i L).flatMap encIns) by rw [← Hpa.out]; exact aown9) ((H.out.2.2.alloc _).grown agrow9 (fun b hb => .inr (row_lt H.out.1 hb).2) : Fr [] w aw9))
          clear aown9 agrow9 aat9 H Hpa
          have Hlm : Hid ((moreL i L).length = i + q + 1) := hide (by rw [more_len, HL.out])
          by_cases hC : okC csP 2 L
          · have HC := hide hC
            have HCm := hide (hiff.out.mpr hC)
            clear hC hiff
            go_wp2_with fail
            go_region_law (first
              | (have _ := C3; refine step_open (by rfl) ?_; go_wp2_with fail; go_at_call 15; refine (Env.check_ok (c := ac9) (gr := gr2) H0.out.1 C3.out.1 C3.out.2.1 rfl (reads_row C3.out.2.2) Hlm.out (by omega) HCm.out).mono ?_; rintro e w8 ⟨rfl, hf8⟩; have C4 := hide (C3.out.1.trans hf8); clear hf8; go_wp2_with fail)
              | (have _ := C2; refine step_open (by rfl) ?_; go_wp2_with fail; go_at_call 16; refine plain_calls.mono ?_; rintro e w7 ⟨gc2, cc2, gr2, rfl, hf7, hrow7⟩; have C3 := hide (And.intro (C2.out.1.trans hf7) (And.intro hrow7 (row_fr C2.out.2 hf7 (by simp)))); clear hf7 hrow7; go_wp2_with fail)
              | (have _ := C1; refine step_open (by rfl) ?_; go_wp2_with fail; go_at_call 15; refine (Env.check_ok (c := c) (gr := gr1) H0.out.1 C1.out.1 C1.out.2.1 rfl (H0.out.2.1.up C1.out.1) H0.out.2.2 (by omega) HC.out).mono ?_; rintro e w6 ⟨rfl, hf6⟩; have C2 := hide (And.intro (C1.out.1.trans hf6) (row_fr C1.out.2.2 hf6 (by simp))); clear hf6; go_wp2_with fail)
              | (refine step_open (by rfl) ?_; go_wp2_with fail; go_at_call 16; refine plain_calls.mono ?_; rintro e w5 ⟨gc1, cc1, gr1, rfl, hf5, hrow5⟩; have C1 := hide (And.intro (HM.out.2.drew.trans hf5) (And.intro hrow5 (row_fr HM.out.1.drew hf5 (by simp)))); clear hf5 hrow5; go_wp2_with fail))
            all_goals
              go_wp2
              go_ret
              exact ⟨rfl, C4.out.below (by simp) (Nat.le_refl _)⟩
          · have HC := hide hC
            have HCm := hide (fun h => hC (hiff.out.mp h))
            clear hC hiff
            go_wp2_with fail
            go_region_law (first
              | (have _ := C3; refine step_open (by rfl) ?_; go_wp2_with fail; go_at_call 15; refine (Env.check_no (c := ac9) (gr := gr2) H0.out.1 C3.out.1 C3.out.2.1 rfl (reads_row C3.out.2.2) Hlm.out (by omega) HCm.out).mono ?_; rintro e w8 ⟨⟨t8, a8, rfl⟩, hf8⟩; have C4 := hide (C3.out.1.trans hf8); clear hf8; go_wp2_with fail)
              | (have _ := C2; refine step_open (by rfl) ?_; go_wp2_with fail; go_at_call 16; refine plain_calls.mono ?_; rintro e w7 ⟨gc2, cc2, gr2, rfl, hf7, hrow7⟩; have C3 := hide (And.intro (C2.out.1.trans hf7) (And.intro hrow7 (row_fr C2.out.2 hf7 (by simp)))); clear hf7 hrow7; go_wp2_with fail)
              | (have _ := C1; refine step_open (by rfl) ?_; go_wp2_with fail; go_at_call 15; refine (Env.check_no (c := c) (gr := gr1) H0.out.1 C1.out.1 C1.out.2.1 rfl (H0.out.2.1.up C1.out.1) H0.out.2.2 (by omega) HC.out).mono ?_; rintro e w6 ⟨⟨t6, a6, rfl⟩, hf6⟩; have C2 := hide (And.intro (C1.out.1.trans hf6) (row_fr C1.out.2.2 hf6 (by simp))); clear hf6; go_wp2_with fail)
              | (refine step_open (by rfl) ?_; go_wp2_with fail; go_at_call 16; refine plain_calls.mono ?_; rintro e w5 ⟨gc1, cc1, gr1, rfl, hf5, hrow5⟩; have C1 := hide (And.intro (HM.out.2.drew.trans hf5) (And.intro hrow5 (row_fr HM.out.1.drew hf5 (by simp)))); clear hf5 hrow5; go_wp2_with fail))
            all_goals
              go_wp2
              go_ret
              exact ⟨rfl, C4.out.below (by simp) (Nat.le_refl _)⟩
end Go.Proofs.YthjakngpegdhmaaDoor

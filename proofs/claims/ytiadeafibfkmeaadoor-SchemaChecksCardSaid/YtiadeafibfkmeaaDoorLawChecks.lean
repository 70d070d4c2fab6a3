/- SchemaChecks: the walk of the law. -/
import Derived.Test.YtiadeafibfkmeaaDoorAwakeS
import Derived.Test.YtiadeafibfkmeaaDoorSchemaArg
import Derived.Test.YtiadeafibfkmeaaDoorRefCheck
import Derived.Test.YtiadeafibfkmeaaDoorRefKinds
import Derived.Deep.QuietTactic
import Derived.Deep.DeepCutAuto
namespace Go.Proofs.YtiadeafibfkmeaaDoor
open Go.RowKit
/-! ### Bounds of the leaves -/
def Sml (c : Ch) : Prop := (∃ k, c.1 = [k] ∧ k.size ≤ 10) ∨ ∃ k i z, c.1 = [k, digS i, z] ∧ k.size ≤ 10 ∧ z.size ≤ 7 ∧ i < 100
theorem nameFl_sml {k : ByteArray} {i : Nat} {nm : ByteArray} {t : Bool} (hk : k.size ≤ 10) (hi : i < 100) : ∀ c ∈ nameFl k i nm t, Sml c := by
  intro c hc
  have hz : sName.size ≤ 7 := by decide
  unfold nameFl at hc
  split at hc
  · simp at hc; exact .inr ⟨k, i, sName, by rw [hc], hk, hz, hi⟩
  · split at hc
    · simp at hc; exact .inr ⟨k, i, sName, by rw [hc], hk, hz, hi⟩
    · simp at hc
theorem allFl_sml {s : Sa} (h1 : s.n1 ≤ 40) (h2 : s.n2 ≤ 40) : ∀ c ∈ allFl s, Sml c := by
  intro c hc
  have z1 : sComps.size ≤ 10 := by decide
  have z2 : sRess.size ≤ 10 := by decide
  have z3 : sWidth.size ≤ 7 := by decide
  have z4 : sDefault.size ≤ 7 := by decide
  unfold allFl at hc
  simp only [List.mem_append] at hc
  rcases hc with ((hc | hc) | hc) | hc
  · unfold longFl at hc
    split at hc
    · simp at hc; exact .inl ⟨sComps, by rw [hc], z1⟩
    · simp at hc
  · unfold compsFl at hc
    obtain ⟨i, hi, hc⟩ := List.mem_flatMap.1 hc
    have hi' := List.mem_range.1 hi
    cases hx : s.cs[i]? with
    | none => rw [hx] at hc; simp at hc
    | some x =>
      rw [hx] at hc
      simp only [Option.map_some, Option.getD_some, compFl, List.mem_append] at hc
      rcases hc with hc | hc
      · exact nameFl_sml z1 (by omega) c hc
      · unfold widthFl at hc
        split at hc
        · split at hc
          · simp at hc; exact .inr ⟨sComps, i, sDefault, by rw [hc], z1, z4, by omega⟩
          · simp at hc
        · simp at hc; exact .inr ⟨sComps, i, sWidth, by rw [hc], z1, z3, by omega⟩
  · unfold longFl at hc
    split at hc
    · simp at hc; exact .inl ⟨sRess, by rw [hc], z2⟩
    · simp at hc
  · unfold ressFl at hc
    obtain ⟨i, hi, hc⟩ := List.mem_flatMap.1 hc
    have hi' := List.mem_range.1 hi
    cases hx : s.rs[i]? with
    | none => rw [hx] at hc; simp at hc
    | some x =>
      rw [hx] at hc
      simp only [Option.map_some, Option.getD_some, resFl] at hc
      exact nameFl_sml z2 (by omega) c hc
theorem plen_join (ws : List ByteArray) : plen ws = (joinB ws).size := by
  unfold plen joinB
  exact (List.size_toArray).symm
theorem sml_bd {cs : List Ch} (h : ∀ c ∈ cs, Sml c) : Bd [] cs := by
  intro c hc
  rw [List.nil_append]
  rcases h c hc with ⟨k, hk, h1⟩ | ⟨k, i, z, hk, h1, h2, h3⟩
  · rw [hk]
    refine ⟨by simp, ?_⟩
    rw [plen_join, joinB1]; omega
  · rw [hk]
    refine ⟨by simp, ?_⟩
    rw [plen_join, path3]
    have := digS_size i h3
    simp only [ByteArray.size_append]
    have : sSl.size = 1 := rfl
    omega
theorem allFl_len {s : Sa} (h1 : s.n1 ≤ 40) (h2 : s.n2 ≤ 40) : (allFl s).length ≤ 200 := by
  unfold allFl
  have a := longFl_len sComps (decide (16 < s.n1))
  have b := longFl_len sRess (decide (8 < s.n2))
  have c := compsFl_len s s.n1
  have d := ressFl_len s s.n2
  simp only [List.length_append]
  omega
theorem row_readsK {w : World} {B n size : Nat} {e : TypeId} {v : Value} {xs : List Value} (h : w.ownsRow B e size v n xs) : ∃ A c, v = .slice A n c ∧ Reads w w.heap.size size A n xs := by
  have hl := row_len h
  rcases row_form h with ⟨rfl, rfl, rfl⟩ | ⟨g, cap, rfl, _, hg, _, _⟩
  · exact ⟨_, _, rfl, hl, fun h => by omega⟩
  · exact ⟨_, _, rfl, hl, fun _ => ⟨g, 0, rfl, hg, fun j u hu => by rw [Nat.zero_add]; exact row_cell h hu⟩⟩
set_option maxRecDepth 100000 in
set_option maxHeartbeats 16000000 in
theorem checks_walk {w : World} {ad : Nat → Addr} (hs : Sents All18 w.heap.size w ad) {s : Sa} (hS : SaR w w.heap.size s) (nm : ByteArray) (hnm : nm.size ≤ maxLen) (comp : Int) :
    Calls Tryd.prog 3 #[s.val, .string nm, .int .i64 comp] w fun e w' => e = .returned (.bool true) ∧ Below w.heap.size w w' := by
  have hA := awake_calls (w := w.alloc (.cells #[.slice s.A1 s.n1 s.c1, .slice s.A2 s.n2 s.c2] 25)) ((hs.fr0 ((Fr.refl _ _).alloc _)).rebase)
  have HA := hide hA
  have H0 := hide (And.intro hs hS)
  have hv : s.val = .agg #[.slice s.A1 s.n1 s.c1, .slice s.A2 s.n2 s.c2] := rfl
  rw [hv]
  have hnm' : (nm.size : Int) ≤ 9223372036854775807 := by unfold maxLen at hnm; omega
  clear hs hS hA hv hnm
  go_enter Tryd.func3, Tryd.ntmps3
  go_wp2_with fail
  refine HA.out.mono ?_
  rintro e w1 ⟨rfl, hf⟩
  have hf1 : Fr [] w w1 := ((Fr.refl _ _).alloc _).trans hf
  have hb1 := (Blk.new w 25 #[.slice s.A1 s.n1 s.c1, .slice s.A2 s.n2 s.c2]).fr0 hf
  have p0 := hb1.at_ 0 (v := .slice s.A1 s.n1 s.c1) rfl
  have p1 := hb1.at_ 1 (v := .slice s.A2 s.n2 s.c2) rfl
  have lp := hb1.lt
  have H1 := hide (And.intro hf1 hb1)
  have HG := hide (great_calls (H0.out.2.below (Fr.below hf1 (by simp) (Nat.le_refl _))) hf1.size)
  clear hf hf1 hb1 HA
  go_wp2_with fail
  refine HG.out.mono ?_
  rintro e w2 ⟨hf2, rfl | ⟨rfl, n40, m40, z1, z2⟩⟩
  · have H2 := hide hf2
    clear hf2
    go_wp2_with fail
    go_ret
    exact ⟨rfl, (H1.out.1.trans H2.out).below (by simp) (Nat.le_refl _)⟩
  by_cases hbig : 100 < nm.size
  · have hbig' : (100 : Int) < (nm.size : Int) := by omega
    have H2 := hide hf2
    clear hf2
    go_wp2_with fail
    go_ret
    exact ⟨rfl, (H1.out.1.trans H2.out).below (by simp) (Nat.le_refl _)⟩
  have hbig' : ¬ (100 : Int) < (nm.size : Int) := by omega
  have hf02 := H1.out.1.trans hf2
  have hok : ∀ W, Fr [] w W → SaOk W w.heap.size s := fun W hf => (H0.out.2.below (Fr.below hf (by simp) (Nat.le_refl _))).ok n40 m40 z1 z2
  have hb2 := H1.out.2.fr0 hf2
  have q0 := hb2.at_ 0 (v := .slice s.A1 s.n1 s.c1) rfl
  have q1 := hb2.at_ 1 (v := .slice s.A2 s.n2 s.c2) rfl
  have lq := hb2.lt
  have HBX := hide (fun W (hf : Fr [] w2 W) => hb2.fr0 hf)
  have HFW := hide (fun W (hf : Fr [] w2 W) => hf02.trans hf)
  have HOK := hide hok
  have HLN := hide (And.intro (allFl_len n40 m40) (sml_bd (allFl_sml n40 m40)))
  have H2 := hide hf02
  clear hf2 hf02 hok hb2 z1 z2 HG p0 p1 lp H1
  go_wp2_with fail
  refine (check_calls (s := s) (H0.out.1.fr0 H2.out) (HOK.out _ H2.out)).mono ?_
  rintro e w3 ⟨v3, rfl, hv3, hf3⟩
  have HV3 := hide hv3
  have H3 := hide hf3
  clear hf3 hv3 q0 q1 lq
  go_wp2_with fail
  refine (HV3.out.leaves (H0.out.1.fr0 (HFW.out _ H3.out)) (by have := HLN.out.1; omega) HLN.out.2).mono ?_
  rintro e w4 ⟨v4, rfl, hr4, hf4⟩
  have hb4 := HBX.out _ (H3.out.trans hf4)
  have q0 := hb4.at_ 0 (v := .slice s.A1 s.n1 s.c1) rfl
  have q1 := hb4.at_ 1 (v := .slice s.A2 s.n2 s.c2) rfl
  have lq := hb4.lt
  rw [List.length_map] at hr4
  have H4 := hide (And.intro hr4 (H3.out.trans hf4))
  clear hr4 hf4 hb4
  go_wp2_with fail
  refine (rcheck_calls (HOK.out _ (HFW.out _ H4.out.2)) (HFW.out _ H4.out.2).size).mono ?_
  rintro e w5 ⟨v5, rfl, hr5, hf5⟩
  obtain ⟨A5, c5, rfl, hd5⟩ := row_readsK hr5
  obtain ⟨A4, c4, rfl, hd4⟩ := row_readsK (row_fr H4.out.1 hf5 (by simp))
  obtain ⟨L, hL⟩ : ∃ L, L = (allFl s).length := ⟨_, rfl⟩
  have hL200 : L ≤ 200 := by rw [hL]; exact HLN.out.1
  rw [← hL] at hd5 hd4 ⊢
  have heq : ∀ W, (binOp .eql 29 v3 .nilIface).run Tryd.prog W = .ok (.bool ((L : Int) == 0)) W := by
    rcases HV3.out.form with ⟨rfl, hn⟩ | ⟨hn, t, a, rfl⟩
    · intro W
      rw [hL, hn]
      exact eql_nil_nil W
    · intro W
      have hL0 : ¬ L = 0 := by rw [hL]; exact fun e => hn (List.eq_nil_of_length_eq_zero e)
      have hb : ((L : Int) == 0) = false := by simpa using hL0
      rw [hb]
      exact eql_nil_false _ _ _
  have hgd : ∀ W, (eqGuard BinOp.eql 29 (Operand.tmp 36) (Operand.const Value.nilIface) v3 Value.nilIface).run Tryd.prog W = .ok () W := by
    rcases HV3.out.form with ⟨rfl, hn⟩ | ⟨hn, t, a, rfl⟩
    · intro W; kernel_rfl
    · intro W; kernel_rfl
  have H5 := hide (And.intro hd5 (And.intro hd4 (And.intro (H4.out.2.trans hf5) hL)))
  clear hr5 hf5 q0 q1 lq hd5 hd4 hL
  go_wp2_with fail
  have HB5 := hide (fun W (hf : Fr [] w5 W) => HBX.out _ (H5.out.2.2.1.trans hf))
  have HW5 := hide (fun W (hf : Fr [] w5 W) => HFW.out _ (H5.out.2.2.1.trans hf))
  go_loopw [10] (fun s10 wr => ∃ i : Nat, i ≤ L ∧ s10 = .int .i64 i ∧ Fr [] w5 wr) (fun s10 _ => L - (intOf s10).toNat)
  case atStart => exact ⟨0, by omega, rfl, Fr.refl _ _⟩
  case round =>
    obtain ⟨i, hi, rfl, hf⟩ := hrel
    have j0 : (0 : Int) ≤ (i : Int) := by omega
    have Hf := hide hf
    by_cases hin : i < L
    · have j1 : (i : Int) < (L : Int) := by omega
      obtain ⟨c, hc⟩ : ∃ c, ((allFl s).map lf)[i]? = some c := ⟨_, List.getElem?_eq_getElem (by rw [List.length_map, ← H5.out.2.2.2]; exact hin)⟩
      have hlm : ((allFl s).map lf).length = L := by rw [List.length_map]; exact H5.out.2.2.2.symm
      obtain ⟨b5, o5, rfl, lb5, hc5⟩ := H5.out.1.at_ encL_len hc hlm
      obtain ⟨b4, o4, rfl, lb4, hc4⟩ := H5.out.2.1.at_ encL_len hc hlm
      have a0 := (hf.cell (p := ⟨b5, o5 + (i * 2 + 0), none⟩) lb5 (by simp)).trans (hc5 0 _ rfl)
      have a1 := (hf.cell (p := ⟨b5, o5 + (i * 2 + 1), none⟩) lb5 (by simp)).trans (hc5 1 _ rfl)
      have d0 := (hf.cell (p := ⟨b4, o4 + (i * 2 + 0), none⟩) lb4 (by simp)).trans (hc4 0 _ rfl)
      have d1 := (hf.cell (p := ⟨b4, o4 + (i * 2 + 1), none⟩) lb4 (by simp)).trans (hc4 1 _ rfl)
      rw [Nat.add_zero] at a0 d0
      rw [← Nat.add_assoc] at a1 d1
      have l5 := Nat.lt_of_lt_of_le lb5 hf.size
      have l4 := Nat.lt_of_lt_of_le lb4 hf.size
      clear hc hlm hc5 hc4 lb5 lb4 hf heq hgd
      go_wp2_with fail
      go_quiet (fail)
      go_wp2_with fail
      go_roundw
      case rel => exact ⟨i + 1, by omega, by go_num, Hf.out.drewN _⟩
      case measure => simp [intOf]; omega
    · have j1 : ¬ (i : Int) < (L : Int) := by omega
      have q0 := (HB5.out _ hf).at_ 0 (v := .slice s.A1 s.n1 s.c1) rfl
      have q1 := (HB5.out _ hf).at_ 1 (v := .slice s.A2 s.n2 s.c2) rfl
      have lq := (HB5.out _ hf).lt
      have ho : ∀ W, Fr [] w5 W → SaOk W w.heap.size s := fun W hf => HOK.out _ (HW5.out _ hf)
      have hB : ∀ W, Fr [] w5 W → w.heap.size ≤ W.heap.size := fun W hf => (HW5.out _ hf).size
      have F1 := hide (fun W (hf : Fr [] w5 W) => find_calls (c := s.c1) (cs := s.cs) (((ho W hf).r1).up (hB W hf)) (ho W hf).l1 (by omega) s.A2 s.n2 s.c2 nm)
      have F2 := hide (fun W (hf : Fr [] w5 W) => rfind_calls (c := s.c1) (cs := s.cs) (((ho W hf).r1).up (hB W hf)) (ho W hf).l1 (by omega) s.A2 s.n2 s.c2 nm)
      have F3 := hide (fun W (hf : Fr [] w5 W) => res_calls (c := s.c2) (cs := s.rs) (((ho W hf).r2).up (hB W hf)) (ho W hf).l2 (by omega) s.A1 s.n1 s.c1 nm)
      have F4 := hide (fun W (hf : Fr [] w5 W) => rres_calls (c := s.c2) (cs := s.rs) (((ho W hf).r2).up (hB W hf)) (ho W hf).l2 (by omega) s.A1 s.n1 s.c1 nm)
      have F5 := hide (fun W => isname_calls (w := W) nm (by omega))
      have F6 := hide (fun W => risname_calls (w := W) nm (by omega))
      have F7 := hide (fun W (hf : Fr [] w5 W) => roll_calls (w := W) (ho W hf) (hB W hf))
      have F8 := hide (fun W (hf : Fr [] w5 W) => rkinds_calls (w := W) (ho W hf) (hB W hf) true)
      have F9 := hide (fun W (hf : Fr [] w5 W) => shown_calls (w := W) (ho W hf) (hB W hf))
      have F10 := hide (fun W (hf : Fr [] w5 W) => rkinds_calls (w := W) (ho W hf) (hB W hf) false)
      have hval : s.val = .agg #[.slice s.A1 s.n1 s.c1, .slice s.A2 s.n2 s.c2] := rfl
      simp only [hval] at F7 F8 F9 F10
      simp only [isAt] at F1 F2 F3 F4
      have FN : Hid (∀ W, Fr [] w5 W → Calls Tryd.prog 17 #[.agg #[.slice s.A1 s.n1 s.c1, .slice s.A2 s.n2 s.c2], .int .i64 comp, .int .i64 9] W fun e w' => ∃ (pt : Pt) (ev : Value), e = .returned (.tuple #[encP pt, ev]) ∧ Fr [] W w' ∧
          (((comp < 0 ∨ (s.n1 : Int) ≤ comp) ∧ pt = ⟨0, 0, 0, 0, 0, 0⟩ ∧ ∃ b, ev = bv b ∧ HC w' ad (bv b) ([sComps], 1)) ∨ (∃ (k : Nat) (x : Cp), comp = k ∧ s.cs[k]? = some x ∧ pt = ⟨k, x.d0, x.d1, x.d2, x.d3, 9⟩ ∧ ev = .nilIface))) := hide (by
        intro W hf
        by_cases hin : 0 ≤ comp ∧ comp < (s.n1 : Int)
        · obtain ⟨k, rfl⟩ := Int.eq_ofNat_of_zero_le hin.1
          obtain ⟨x, hx⟩ : ∃ x, s.cs[k]? = some x := ⟨_, List.getElem?_eq_getElem (by rw [(ho W hf).l1]; omega)⟩
          exact (newP_in (ho W hf) (hB W hf) hx 9).mono fun e w' h => ⟨⟨k, x.d0, x.d1, x.d2, x.d3, 9⟩, .nilIface, h.1, h.2, .inr ⟨k, x, rfl, hx, rfl, rfl⟩⟩
        · refine (newP_out (H0.out.1.fr0 (HW5.out _ hf)) s comp 9 (by omega) n40).mono fun e w' h => ?_
          obtain ⟨b, h1, h2, h3⟩ := h
          exact ⟨⟨0, 0, 0, 0, 0, 0⟩, bv b, h1, h3, .inl ⟨by omega, rfl, b, rfl, h2⟩⟩)
      generalize ((findI (s.cs.map (·.name)) nm).getD 0 : Nat) = k1 at *
      generalize (findI (s.cs.map (·.name)) nm).isSome = i1 at *
      generalize ((findI (s.rs.map (·.name)) nm).getD 0 : Nat) = k2 at *
      generalize (findI (s.rs.map (·.name)) nm).isSome = i2 at *
      generalize nameB nm = nb at *
      generalize kindN s.cs true s.n1 = ka at *
      generalize kindN s.cs false s.n1 = kb at *
      clear hf heq hgd hval ho hB
      go_wp2_with fail
      refine (F1.out _ Hf.out).mono ?_
      rintro e w6 ⟨rfl, hf6⟩
      have H6 := hide (Hf.out.trans hf6)
      have hb6 := HB5.out _ H6.out
      clear hf6 q0 q1 lq
      have q0 := hb6.at_ 0 (v := .slice s.A1 s.n1 s.c1) rfl
      have q1 := hb6.at_ 1 (v := .slice s.A2 s.n2 s.c2) rfl
      have lq := hb6.lt
      clear hb6
      go_wp2_with fail
      refine (F2.out _ H6.out).mono ?_
      rintro e w7 ⟨rfl, hf7⟩
      have H7 := hide (H6.out.trans hf7)
      have hb7 := HB5.out _ H7.out
      clear hf7 q0 q1 lq
      have q0 := hb7.at_ 0 (v := .slice s.A1 s.n1 s.c1) rfl
      have q1 := hb7.at_ 1 (v := .slice s.A2 s.n2 s.c2) rfl
      have lq := hb7.lt
      clear hb7
      go_wp2_with fail
      refine (F3.out _ H7.out).mono ?_
      rintro e w8 ⟨rfl, hf8⟩
      have H8 := hide (H7.out.trans hf8)
      have hb8 := HB5.out _ H8.out
      clear hf8 q0 q1 lq
      have q0 := hb8.at_ 0 (v := .slice s.A1 s.n1 s.c1) rfl
      have q1 := hb8.at_ 1 (v := .slice s.A2 s.n2 s.c2) rfl
      have lq := hb8.lt
      clear hb8
      go_wp2_with fail
      refine (F4.out _ H8.out).mono ?_
      rintro e w9 ⟨rfl, hf9⟩
      have H9 := hide (H8.out.trans hf9)
      have hb9 := HB5.out _ H9.out
      clear hf9 q0 q1 lq
      have q0 := hb9.at_ 0 (v := .slice s.A1 s.n1 s.c1) rfl
      have q1 := hb9.at_ 1 (v := .slice s.A2 s.n2 s.c2) rfl
      have lq := hb9.lt
      clear hb9
      go_wp2_with fail
      refine (FN.out _ H9.out).mono ?_
      rintro e w10 ⟨⟨pc, pa, pb, pd, pe, pt⟩, ev, rfl, hf10, hways⟩
      simp only [encP, boxP]
      have H10 := hide (H9.out.trans hf10)
      have hb10 := (HB5.out _ H10.out).alloc (.cells #[.int .i64 pc, .int .i64 pa, .int .i64 pb, .int .i64 pd, .int .i64 pe, .int .i64 pt] 42)
      clear hf10 q0 q1 lq
      have q0 := hb10.at_ 0 (v := .slice s.A1 s.n1 s.c1) rfl
      have q1 := hb10.at_ 1 (v := .slice s.A2 s.n2 s.c2) rfl
      have lq := hb10.lt
      have hbp := Blk.new w10 42 #[.int .i64 pc, .int .i64 pa, .int .i64 pb, .int .i64 pd, .int .i64 pe, .int .i64 pt]
      have hf11 : Fr [] w10 (w10.alloc (.cells #[.int .i64 pc, .int .i64 pa, .int .i64 pb, .int .i64 pd, .int .i64 pe, .int .i64 pt] 42)) := (Fr.refl _ _).alloc _
      clear hb10
      go_upto_region 20 with (fail)
      generalize hbpe : w10.heap.size = bp at *
      clear hbpe
      generalize w10.alloc (.cells #[.int .i64 pc, .int .i64 pa, .int .i64 pb, .int .i64 pd, .int .i64 pe, .int .i64 pt] 42) = w11 at *
      have c0 := hbp.at_ 0 (v := .int .i64 pc) rfl
      have c1 := hbp.at_ 1 (v := .int .i64 pa) rfl
      have c2 := hbp.at_ 2 (v := .int .i64 pb) rfl
      have c3 := hbp.at_ 3 (v := .int .i64 pd) rfl
      have c4' := hbp.at_ 4 (v := .int .i64 pe) rfl
      have c5' := hbp.at_ 5 (v := .int .i64 pt) rfl
      have lc := hbp.lt
      have H11 := hide (H10.out.trans hf11)
      have HP := hide hbp
      have hways2 : ((comp < 0 ∨ ((s.n1 : Int) ≤ comp ∧ 0 ≤ comp)) ∧ (⟨pc, pa, pb, pd, pe, pt⟩ : Pt) = ⟨0, 0, 0, 0, 0, 0⟩ ∧ ∃ b, ev = bv b ∧ HC w11 ad (bv b) ([sComps], 1)) ∨ (∃ (k : Nat) (x : Cp), comp = k ∧ s.cs[k]? = some x ∧ (⟨pc, pa, pb, pd, pe, pt⟩ : Pt) = ⟨k, x.d0, x.d1, x.d2, x.d3, 9⟩ ∧ ev = .nilIface) := by
        rcases hways with ⟨h1, h2, b, h3, h4⟩ | h
        · exact .inl ⟨by omega, h2, b, h3, h4.fr0 hf11⟩
        · exact .inr h
      clear hf11 hways hbp F1 F2 F3 F4 FN
      rcases hways2 with ⟨hcc, hpt, b, rfl, hhc⟩ | ⟨k, x, rfl, hx, hpt, rfl⟩
      · have hqp : ∀ W, (binOp .neq 42 (.agg #[.int .i64 0, .int .i64 0, .int .i64 0, .int .i64 0, .int .i64 0, .int .i64 0]) (.agg #[.int .i64 0, .int .i64 0, .int .i64 0, .int .i64 0, .int .i64 0, .int .i64 0])).run Tryd.prog W = .ok (.bool false) W := fun W => by have := (eql_part ⟨0, 0, 0, 0, 0, 0⟩ ⟨0, 0, 0, 0, 0, 0⟩ W).2; rw [decide_eq_true rfl] at this; exact this
        have hss := H0.out.1.fr0 (HW5.out _ H11.out)
        have g1 := hss.cell 1 (mem_all18 (by omega) (by omega))
        have lg1 := Nat.lt_of_lt_of_le (hss.glob 1 (mem_all18 (by omega) (by omega))) hss.le
        have e1 : gOf 1 = 0 := rfl
        rw [e1] at g1 lg1
        have HI := hide (is_ev hss (j := 1) (mem_all18 (by omega) (by omega)) hhc.ev (by simp))
        rw [decide_eq_true (by simp [nums])] at HI
        injection hpt with z1 z2 z3 z4 z5 z6
        subst z1 z2 z3 z4 z5 z6
        clear hss e1 hhc
        rcases hcc with hcc | ⟨hcc, hcc2⟩
        all_goals
          go_wp2_with fail
          refine HI.out.mono ?_
          rintro e w12 ⟨rfl, hf⟩
          have hb12 := HP.out.fr0 hf
          have d0 := hb12.at_ 0 (v := .int .i64 0) rfl
          have d1 := hb12.at_ 1 (v := .int .i64 0) rfl
          have d2 := hb12.at_ 2 (v := .int .i64 0) rfl
          have d3 := hb12.at_ 3 (v := .int .i64 0) rfl
          have d4 := hb12.at_ 4 (v := .int .i64 0) rfl
          have d5 := hb12.at_ 5 (v := .int .i64 0) rfl
          have ld := hb12.lt
          have H12 := hide (H11.out.trans hf)
          clear hf hb12 g1 lg1 c0 c1 c2 c3 c4' c5' lc
          go_wp2_with fail
          have hb13 := HB5.out _ H12.out
          clear q0 q1 lq
          have q0 : w12.drew.cell? ⟨w.heap.size, 0, none⟩ = some (.slice s.A1 s.n1 s.c1) := hb13.at_ 0 rfl
          have q1 : w12.drew.cell? ⟨w.heap.size, 1, none⟩ = some (.slice s.A2 s.n2 s.c2) := hb13.at_ 1 rfl
          clear hb13
          go_region_held3 (fun w' => w'.cell? ⟨w.heap.size, 0, none⟩ = some (.slice s.A1 s.n1 s.c1) ∧ w'.cell? ⟨w.heap.size, 1, none⟩ = some (.slice s.A2 s.n2 s.c2)) (first | exact ⟨q0, q1⟩ | with_reducible exact K1 | with_reducible exact K2 | with_reducible exact K3 | with_reducible exact K4 | with_reducible exact K5)
            (first
              | (go_at_call 19; with_reducible refine (F5.out _).mono ?_; rintro e y1 ⟨rfl, hf⟩; have Y1 := hide (H12.out.trans ((show Fr [] w12 _ by (repeat (first | exact Fr.refl _ _ | apply Fr.drew | apply Fr.drewN | apply Fr.alloc | (refine Fr.setCell ?_ (by first | (left; simp [Value.ownBlock]; done) | (right; simp; omega) | (right; simp; done)) _)))).trans hf)); have K1 := And.intro ((HB5.out _ Y1.out).at_ 0 (v := .slice s.A1 s.n1 s.c1) rfl) ((HB5.out _ Y1.out).at_ 1 (v := .slice s.A2 s.n2 s.c2) rfl); clear hf)
              | (go_at_call 20; with_reducible refine (F6.out _).mono ?_; rintro e y2 ⟨rfl, rfl⟩)
              | (go_at_call 21; with_reducible refine (F7.out _ Y1.out).mono ?_; rintro e y3 ⟨rfl, hf⟩; have Y3 := hide (Y1.out.trans hf); have K2 := And.intro ((HB5.out _ Y3.out).at_ 0 (v := .slice s.A1 s.n1 s.c1) rfl) ((HB5.out _ Y3.out).at_ 1 (v := .slice s.A2 s.n2 s.c2) rfl); clear hf)
              | (go_at_call 22; with_reducible refine (F8.out _ Y3.out).mono ?_; rintro e y4 ⟨rfl, hf⟩; have Y4 := hide (Y3.out.trans hf); have K3 := And.intro ((HB5.out _ Y4.out).at_ 0 (v := .slice s.A1 s.n1 s.c1) rfl) ((HB5.out _ Y4.out).at_ 1 (v := .slice s.A2 s.n2 s.c2) rfl); clear hf)
              | (go_at_call 23; with_reducible refine (F9.out _ Y4.out).mono ?_; rintro e y5 ⟨rfl, hf⟩; have Y5 := hide (Y4.out.trans hf); have K4 := And.intro ((HB5.out _ Y5.out).at_ 0 (v := .slice s.A1 s.n1 s.c1) rfl) ((HB5.out _ Y5.out).at_ 1 (v := .slice s.A2 s.n2 s.c2) rfl); clear hf)
              | (go_at_call 22; with_reducible refine (F10.out _ Y5.out).mono ?_; rintro e y6 ⟨rfl, hf⟩; have Y6 := hide (Y5.out.trans hf); have K5 := And.intro ((HB5.out _ Y6.out).at_ 0 (v := .slice s.A1 s.n1 s.c1) rfl) ((HB5.out _ Y6.out).at_ 1 (v := .slice s.A2 s.n2 s.c2) rfl); clear hf))
          go_wp2_with fail
          go_ret
          exact ⟨rfl, (HW5.out _ Y6.out).below (by simp) (Nat.le_refl _)⟩
      · have hn2 : ∀ (W : World), (binOp .neq 29 .nilIface .nilIface).run Tryd.prog W = .ok (.bool false) W := fun W => by kernel_rfl
        injection hpt with z1 z2 z3 z4 z5 z6
        subst z1 z2 z3 z4 z5 z6
        have hk : k < s.n1 := by have := (List.getElem?_eq_some_iff.1 hx).1; have := H0.out.2.l1; omega
        have k0 : (0 : Int) ≤ (k : Int) := by omega
        have k1' : (k : Int) < (s.n1 : Int) := by omega
        have hqp : ∀ W, (binOp .neq 42 (.agg #[.int .i64 k, .int .i64 x.d0, .int .i64 x.d1, .int .i64 x.d2, .int .i64 x.d3, .int .i64 9]) (.agg #[.int .i64 k, .int .i64 x.d0, .int .i64 x.d1, .int .i64 x.d2, .int .i64 x.d3, .int .i64 9])).run Tryd.prog W = .ok (.bool false) W := fun W => by have := (eql_part ⟨k, x.d0, x.d1, x.d2, x.d3, 9⟩ ⟨k, x.d0, x.d1, x.d2, x.d3, 9⟩ W).2; rw [decide_eq_true rfl] at this; exact this
        obtain ⟨b, off, hA, hbB, hcl⟩ := H0.out.2.r1.at_ encC_len hx H0.out.2.l1
        have hcl' := fun (j : Nat) u (hu : (encC x)[j]? = some u) => ((HW5.out _ H11.out).cell (p := ⟨b, off + (k * 7 + j), none⟩) hbB (by simp)).trans (hcl j u hu)
        have a3 := hcl' 3 _ rfl
        have a4 := hcl' 4 _ rfl
        have a5 := hcl' 5 _ rfl
        have a6 := hcl' 6 _ rfl
        rw [← Nat.add_assoc] at a3 a4 a5 a6
        have lbr := Nat.lt_of_lt_of_le hbB (HW5.out _ H11.out).size
        rw [hA] at q0
        have HA2 := hide hA
        clear hcl hcl' hA hx
        go_wp2_with fail
        go_quiet (fail)
        clear a3 a4 a5 a6 c0 c1 c2 c3 c4' c5'
        go_wp2_with fail
        have H12 := hide (H11.out.drewN nq)
        generalize w11.drewN nq = w12 at *
        have hb13 := HB5.out _ H12.out
        clear q0 q1 lq
        have q0 : w12.drew.cell? ⟨w.heap.size, 0, none⟩ = some (.slice s.A1 s.n1 s.c1) := hb13.at_ 0 rfl
        have q1 : w12.drew.cell? ⟨w.heap.size, 1, none⟩ = some (.slice s.A2 s.n2 s.c2) := hb13.at_ 1 rfl
        clear hb13
        go_region_held3 (fun w' => w'.cell? ⟨w.heap.size, 0, none⟩ = some (.slice s.A1 s.n1 s.c1) ∧ w'.cell? ⟨w.heap.size, 1, none⟩ = some (.slice s.A2 s.n2 s.c2)) (first | exact ⟨q0, q1⟩ | with_reducible exact K1 | with_reducible exact K2 | with_reducible exact K3 | with_reducible exact K4 | with_reducible exact K5)
          (first
            | (go_at_call 19; with_reducible refine (F5.out _).mono ?_; rintro e y1 ⟨rfl, hf⟩; have Y1 := hide (H12.out.trans ((show Fr [] w12 _ by (repeat (first | exact Fr.refl _ _ | apply Fr.drew | apply Fr.drewN | apply Fr.alloc | (refine Fr.setCell ?_ (by first | (left; simp [Value.ownBlock]; done) | (right; simp; omega) | (right; simp; done)) _)))).trans hf)); have K1 := And.intro ((HB5.out _ Y1.out).at_ 0 (v := .slice s.A1 s.n1 s.c1) rfl) ((HB5.out _ Y1.out).at_ 1 (v := .slice s.A2 s.n2 s.c2) rfl); clear hf)
            | (go_at_call 20; with_reducible refine (F6.out _).mono ?_; rintro e y2 ⟨rfl, rfl⟩)
            | (go_at_call 21; with_reducible refine (F7.out _ Y1.out).mono ?_; rintro e y3 ⟨rfl, hf⟩; have Y3 := hide (Y1.out.trans hf); have K2 := And.intro ((HB5.out _ Y3.out).at_ 0 (v := .slice s.A1 s.n1 s.c1) rfl) ((HB5.out _ Y3.out).at_ 1 (v := .slice s.A2 s.n2 s.c2) rfl); clear hf)
            | (go_at_call 22; with_reducible refine (F8.out _ Y3.out).mono ?_; rintro e y4 ⟨rfl, hf⟩; have Y4 := hide (Y3.out.trans hf); have K3 := And.intro ((HB5.out _ Y4.out).at_ 0 (v := .slice s.A1 s.n1 s.c1) rfl) ((HB5.out _ Y4.out).at_ 1 (v := .slice s.A2 s.n2 s.c2) rfl); clear hf)
            | (go_at_call 23; with_reducible refine (F9.out _ Y4.out).mono ?_; rintro e y5 ⟨rfl, hf⟩; have Y5 := hide (Y4.out.trans hf); have K4 := And.intro ((HB5.out _ Y5.out).at_ 0 (v := .slice s.A1 s.n1 s.c1) rfl) ((HB5.out _ Y5.out).at_ 1 (v := .slice s.A2 s.n2 s.c2) rfl); clear hf)
            | (go_at_call 22; with_reducible refine (F10.out _ Y5.out).mono ?_; rintro e y6 ⟨rfl, hf⟩; have Y6 := hide (Y5.out.trans hf); have K5 := And.intro ((HB5.out _ Y6.out).at_ 0 (v := .slice s.A1 s.n1 s.c1) rfl) ((HB5.out _ Y6.out).at_ 1 (v := .slice s.A2 s.n2 s.c2) rfl); clear hf))
        go_wp2_with fail
        go_ret
        exact ⟨rfl, (HW5.out _ Y6.out).below (by simp) (Nat.le_refl _)⟩
end Go.Proofs.YtiadeafibfkmeaaDoor

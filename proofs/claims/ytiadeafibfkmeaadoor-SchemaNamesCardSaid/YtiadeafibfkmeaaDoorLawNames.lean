/- SchemaNames: the walk of the law. -/
import Derived.Test.YtiadeafibfkmeaaDoorLawFewer
import Derived.Test.YtiadeafibfkmeaaDoorCount
namespace Go.Proofs.YtiadeafibfkmeaaDoor
open Go.RowKit
/-! ### The plain side: no flaws -/
structure Fine (s : Sa) : Prop where
  n1 : s.n1 ≤ 16
  n2 : s.n2 ≤ 8
  c : ∀ (i : Nat) (x : Cp), s.cs[i]? = some x → nameB x.name = true ∧ findI s.cn x.name = some i ∧ findI s.rn x.name = none
  r : ∀ (i : Nat) (x : Rs), s.rs[i]? = some x → findI s.rn x.name = some i
theorem nameFl_nil {k : ByteArray} {i : Nat} {nm : ByteArray} {t : Bool} (h : nameFl k i nm t = []) : nameB nm = true ∧ t = false := by
  unfold nameFl at h
  cases hb : nameB nm with
  | false => rw [hb] at h; simp at h
  | true =>
    rw [hb] at h
    cases t with
    | false => exact ⟨rfl, rfl⟩
    | true => simp at h
theorem fine {s : Sa} (l1 : s.cs.length = s.n1) (l2 : s.rs.length = s.n2) (h : allFl s = []) : Fine s := by
  unfold allFl at h
  simp only [List.append_eq_nil_iff] at h
  obtain ⟨⟨⟨h1, h2⟩, h3⟩, h4⟩ := h
  have e1 := of_decide_eq_false (longFl_nil h1)
  have e2 := of_decide_eq_false (longFl_nil h3)
  have hc := flat_nil h2
  have hr := flat_nil h4
  have first : ∀ {l : List ByteArray} {nm : ByteArray} {i : Nat}, l[i]? = some nm → takenC l nm i = false → findI l nm = some i := by
    intro l nm i hx ht
    obtain ⟨f, hf, hfi⟩ := findI_has hx
    unfold takenC at ht
    rw [hf] at ht
    simp at ht
    rw [hf]
    congr 1
    omega
  have hres : ∀ (i : Nat) (x : Rs), s.rs[i]? = some x → findI s.cn x.name = none ∧ findI s.rn x.name = some i := by
    intro i x hx
    have hi := (List.getElem?_eq_some_iff.1 hx).1
    have := hr i (List.mem_range.2 (by omega))
    rw [hx] at this
    simp only [Option.map_some, Option.getD_some] at this
    have h5 := (nameFl_nil this).2
    rw [Bool.or_eq_false_iff] at h5
    exact ⟨by simpa using h5.1, first (by rw [List.getElem?_map, hx]; rfl) h5.2⟩
  refine ⟨by omega, by omega, fun i x hx => ?_, fun i x hx => (hres i x hx).2⟩
  have hi := (List.getElem?_eq_some_iff.1 hx).1
  have := hc i (List.mem_range.2 (by omega))
  rw [hx] at this
  simp only [Option.map_some, Option.getD_some, compFl, List.append_eq_nil_iff] at this
  obtain ⟨h5, h6⟩ := nameFl_nil this.1
  have hn : s.cn[i]? = some x.name := by rw [List.getElem?_map, hx]; rfl
  refine ⟨h5, first hn h6, ?_⟩
  cases hq : findI s.rn x.name with
  | none => rfl
  | some j =>
    exfalso
    have h7 := (findI_spec hq).1
    rw [List.getElem?_map] at h7
    obtain ⟨y, hy, hyn⟩ := Option.map_eq_some_iff.1 h7
    have h8 := (hres j y hy).1
    rw [hyn] at h8
    obtain ⟨f, hf, -⟩ := findI_has hn
    rw [h8] at hf
    cases hf
theorem filt_succ (p : Nat → Bool) (n : Nat) : ((List.range (n + 1)).filter p).length = ((List.range n).filter p).length + (if p n = true then 1 else 0) := by
  rw [List.range_succ, List.filter_append, List.length_append]
  cases h : p n <;> simp [h]
theorem bits_or {a k : Nat} (ha : a < 2 ^ k) (n : Nat) : ((List.range n).filter (a ||| 2 ^ k).testBit).length = ((List.range n).filter a.testBit).length + (if k < n then 1 else 0) := by
  induction n with
  | zero => simp
  | succ n ih =>
    rw [filt_succ, filt_succ, ih, Nat.testBit_or, Nat.testBit_two_pow]
    rcases Nat.lt_trichotomy n k with h | h | h
    · have h1 : ¬ k < n + 1 := by omega
      have h2 : ¬ k < n := by omega
      have h3 : ¬ k = n := by omega
      simp [h1, h2, h3]
    · subst h
      have h1 : a.testBit n = false := Nat.testBit_lt_two_pow ha
      simp [h1]
    · have h1 : k < n + 1 := by omega
      have h3 : ¬ k = n := by omega
      simp [h1, h, h3]
      omega
theorem kinds_apart (cs : List Cp) : ∀ k, k ≤ 32 → k ≤ cs.length → kindN cs true k < 2 ^ k ∧ kindN cs false k < 2 ^ k ∧ kindN cs true k &&& kindN cs false k = 0 ∧ (bitsOf (kindN cs true k)).length + (bitsOf (kindN cs false k)).length = k := by
  intro k
  induction k with
  | zero =>
    intro _ _
    refine ⟨by simp [kindN], by simp [kindN], by simp [kindN], ?_⟩
    have : kindN cs true 0 = 0 := rfl
    have h2 : kindN cs false 0 = 0 := rfl
    rw [this, h2, bitsOf_zero]
    rfl
  | succ k ih =>
    intro h32 hl
    obtain ⟨h1, h2, h3, h4⟩ := ih (by omega) (by omega)
    have hx : cs[k]? = some (cs[k]'(by omega)) := List.getElem?_eq_getElem (by omega)
    have e1 := kindN_succ (r := true) hx
    have e2 := kindN_succ (r := false) hx
    rw [bitN_in (show k < 32 by omega)] at e1 e2
    have hk2 : 2 ^ k < 2 ^ (k + 1) := Nat.pow_lt_pow_right (by omega) (by omega)
    have hand : ∀ a b : Nat, a < 2 ^ k → b < 2 ^ k → a &&& b = 0 → (a ||| 2 ^ k) &&& b = 0 := by
      intro a b ha hb hab
      apply Nat.eq_of_testBit_eq
      intro i
      rw [Nat.testBit_and, Nat.testBit_or, Nat.testBit_two_pow, Nat.zero_testBit]
      have h5 : (a.testBit i && b.testBit i) = false := by rw [← Nat.testBit_and, hab, Nat.zero_testBit]
      by_cases he : k = i
      · subst he
        rw [Nat.testBit_lt_two_pow hb, Bool.and_false]
      · simp only [he, decide_false, Bool.or_false]
        exact h5
    cases hr : (cs[k]'(by omega)).roll with
    | true =>
      rw [hr] at e1 e2
      rw [if_pos rfl] at e1
      rw [if_neg (by simp)] at e2
      rw [e1, e2]
      refine ⟨Nat.or_lt_two_pow (by omega) hk2, by omega, hand _ _ h1 h2 h3, ?_⟩
      have := bits_or h1 32
      unfold bitsOf at h4 ⊢
      rw [if_pos (by omega)] at this
      omega
    | false =>
      rw [hr] at e1 e2
      rw [if_neg (by simp)] at e1
      rw [if_pos rfl] at e2
      rw [e1, e2]
      refine ⟨by omega, Nat.or_lt_two_pow (by omega) hk2, ?_, ?_⟩
      · rw [Nat.and_comm]
        exact hand _ _ h2 h1 (by rw [Nat.and_comm]; exact h3)
      · have := bits_or h2 32
        unfold bitsOf at h4 ⊢
        rw [if_pos (by omega)] at this
        omega
theorem step_openG {P : Program} {ops : Array Oper} {o : Oper} {a : Act} {w : World} {K : Act → World → Prop} {Q : Exit → Act → World → Prop} {E : Prop} (hw : Region.wanted o (yielded ops a.tmps) = true) (h : Oper.wp P o a w K Q) : if Region.wanted o (yielded ops a.tmps) = true then Oper.wp P o a w K Q else E := by
  rw [if_pos hw]; exact h
set_option maxRecDepth 100000 in
set_option maxHeartbeats 8000000 in
theorem names_walk {w : World} {ad : Nat → Addr} (hs : Sents All18 w.heap.size w ad) {s : Sa} (hS : SaR w w.heap.size s) :
    Calls Tryd.prog 5 #[s.val] w fun e w' => e = .returned (.bool true) ∧ Below w.heap.size w w' := by
  have hA := awake_calls (w := w.alloc (.cells #[.slice s.A1 s.n1 s.c1, .slice s.A2 s.n2 s.c2] 25)) ((hs.fr0 ((Fr.refl _ _).alloc _)).rebase)
  have HA := hide hA
  have H0 := hide (And.intro hs hS)
  have hv : s.val = .agg #[.slice s.A1 s.n1 s.c1, .slice s.A2 s.n2 s.c2] := rfl
  rw [hv]
  clear hs hS hA hv
  go_enter Tryd.func5, Tryd.ntmps5
  go_wp2_with fail
  refine HA.out.mono ?_
  rintro e w1 ⟨rfl, hf⟩
  have hf1 : Fr [] w w1 := ((Fr.refl _ _).alloc _).trans hf
  have hb1 := (Blk.new w 25 #[.slice s.A1 s.n1 s.c1, .slice s.A2 s.n2 s.c2]).fr0 hf
  have p0 := hb1.at_ 0 (v := .slice s.A1 s.n1 s.c1) rfl
  have p1 := hb1.at_ 1 (v := .slice s.A2 s.n2 s.c2) rfl
  have lp := hb1.lt
  have H1 := hide (And.intro hf1 hb1)
  have HG := hide (great_calls (H0.out.2.below (Fr.below hf1 (by simp) (Nat.le_refl _))) hf1.size)
  clear hf hf1 hb1 HA
  go_wp2_with fail
  refine HG.out.mono ?_
  rintro e w2 ⟨hf2, rfl | ⟨rfl, n40, m40, z1, z2⟩⟩
  · have H2 := hide hf2
    clear hf2
    go_wp2_with fail
    go_ret
    exact ⟨rfl, (H1.out.1.trans H2.out).below (by simp) (Nat.le_refl _)⟩
  have hf02 := H1.out.1.trans hf2
  have hok : ∀ W, Fr [] w W → SaOk W w.heap.size s := fun W hf => (H0.out.2.below (Fr.below hf (by simp) (Nat.le_refl _))).ok n40 m40 z1 z2
  have hb2 := H1.out.2.fr0 hf2
  have q0 := hb2.at_ 0 (v := .slice s.A1 s.n1 s.c1) rfl
  have q1 := hb2.at_ 1 (v := .slice s.A2 s.n2 s.c2) rfl
  have lq := hb2.lt
  have H2 := hide (And.intro hf02 (And.intro hok hb2))
  have n1 : ∀ (t : TypeId) (x : Value) (W : World), (binOp .neq 29 (.iface t x) .nilIface).run Tryd.prog W = .ok (.bool true) W := fun t x W => run_neq_held_nil W 29 t x (by kernel_rfl)
  have n2 : ∀ (W : World), (binOp .neq 29 .nilIface .nilIface).run Tryd.prog W = .ok (.bool false) W := fun W => by kernel_rfl
  clear hf2 hf02 hok hb2 z1 z2 HG p0 p1 lp H1
  go_wp2_with fail
  refine (check_calls (s := s) (H0.out.1.fr0 H2.out.1) (H2.out.2.1 _ H2.out.1)).mono ?_
  rintro e w3 ⟨v3, rfl, hv3, hf3⟩
  have hb3 := H2.out.2.2.fr0 hf3
  have r0 := hb3.at_ 0 (v := .slice s.A1 s.n1 s.c1) rfl
  have r1 := hb3.at_ 1 (v := .slice s.A2 s.n2 s.c2) rfl
  have lr := hb3.lt
  have H3 := hide (And.intro (H2.out.1.trans hf3) hb3)
  rcases hv3.form with ⟨rfl, hnil⟩ | ⟨-, t, a, rfl⟩
  rotate_left
  · clear hv3 hf3 hb3
    go_wp2_with fail
    go_ret
    exact ⟨rfl, H3.out.1.below (by simp) (Nat.le_refl _)⟩
  have hfine := fine H0.out.2.l1 H0.out.2.l2 hnil
  have f16 := hfine.n1
  have f8 := hfine.n2
  have f16' : ¬ (16 : Int) < (s.n1 : Int) := by omega
  have f8' : ¬ (8 : Int) < (s.n2 : Int) := by omega
  have HF := hide hfine
  clear hv3 hf3 hb3 hnil hfine q0 q1 lq
  have HFind : Hid (∀ (i : Nat) (x : Cp), s.cs[i]? = some x → (∀ W, Fr [] w W → Calls Tryd.prog 13 #[.agg #[.slice s.A1 s.n1 s.c1, .slice s.A2 s.n2 s.c2], .string x.name] W fun e w' => e = .returned (.tuple #[.int .i64 i, .bool true]) ∧ Fr [] W w') ∧ (∀ W, Fr [] w W → Calls Tryd.prog 15 #[.agg #[.slice s.A1 s.n1 s.c1, .slice s.A2 s.n2 s.c2], .string x.name] W fun e w' => e = .returned (.tuple #[.int .i64 0, .bool false]) ∧ Fr [] W w')) := hide (by
    intro i x hx
    obtain ⟨-, h1, h2⟩ := HF.out.c i x hx
    refine ⟨fun W hf => ?_, fun W hf => ?_⟩
    · have := find_calls (c := s.c1) (cs := s.cs) (((H2.out.2.1 _ hf).r1.up hf.size)) H0.out.2.l1 (by omega) s.A2 s.n2 s.c2 x.name
      rw [show findI (s.cs.map (·.name)) x.name = some i from h1] at this
      exact this
    · have := res_calls (c := s.c2) (cs := s.rs) (((H2.out.2.1 _ hf).r2.up hf.size)) H0.out.2.l2 (by omega) s.A1 s.n1 s.c1 x.name
      rw [show findI (s.rs.map (·.name)) x.name = none from h2] at this
      exact this)
  have HRes : Hid (∀ (i : Nat) (x : Rs), s.rs[i]? = some x → ∀ W, Fr [] w W → Calls Tryd.prog 15 #[.agg #[.slice s.A1 s.n1 s.c1, .slice s.A2 s.n2 s.c2], .string x.name] W fun e w' => e = .returned (.tuple #[.int .i64 i, .bool true]) ∧ Fr [] W w') := hide (by
    intro i x hx W hf
    have := res_calls (c := s.c2) (cs := s.rs) (((H2.out.2.1 _ hf).r2.up hf.size)) H0.out.2.l2 (by omega) s.A1 s.n1 s.c1 x.name
    rw [show findI (s.rs.map (·.name)) x.name = some i from HF.out.r i x hx] at this
    exact this)
  go_wp2_with fail
  go_loopw [3, 4, 5, 6, 7] (fun s3 _ _ _ _ wr => ∃ i : Nat, i ≤ s.n1 ∧ s3 = .int .i64 i ∧ Fr [] w3 wr) (fun s3 _ _ _ _ _ => s.n1 - (intOf s3).toNat)
  case atStart => exact ⟨0, by omega, rfl, Fr.refl _ _⟩
  case round =>
    obtain ⟨i, hi, rfl, hf⟩ := hrel
    have i0 : (0 : Int) ≤ (i : Int) := by omega
    have hbr := H3.out.2.fr0 hf
    have q0 := hbr.at_ 0 (v := .slice s.A1 s.n1 s.c1) rfl
    have q1 := hbr.at_ 1 (v := .slice s.A2 s.n2 s.c2) rfl
    have lq := hbr.lt
    have Hf := hide hf
    by_cases hin : i < s.n1
    · have i1 : (i : Int) < (s.n1 : Int) := by omega
      obtain ⟨x, hx⟩ : ∃ x, s.cs[i]? = some x := ⟨s.cs[i]'(by have := H0.out.2.l1; omega), by simp⟩
      obtain ⟨b, off, hA, hbw, hcl⟩ := H0.out.2.r1.at_ encC_len hx H0.out.2.l1
      have a0w := hcl 0 (.string x.name) rfl
      have lb3 := Nat.lt_of_lt_of_le hbw H3.out.1.size
      have a03 := (H3.out.1.cell (p := ⟨b, off + (i * 7 + 0), none⟩) hbw (by simp)).trans a0w
      have a0 := (hf.cell (p := ⟨b, off + (i * 7 + 0), none⟩) lb3 (by simp)).trans a03
      rw [Nat.add_zero] at a0 a03
      rw [hA] at q0
      have lb := Nat.lt_of_lt_of_le lb3 hf.size
      have HC1 := hide (fun W (hf : Fr [] w3 W) => (HFind.out i x hx).1 W (H3.out.1.trans hf))
      have HC2 := hide (fun W (hf : Fr [] w3 W) => (HFind.out i x hx).2 W (H3.out.1.trans hf))
      have HC3 : Hid (∀ W, Calls Tryd.prog 19 #[.string x.name] W fun e w' => e = .returned (.bool true) ∧ Fr [] W w') := hide (fun W => by
        have := isname_calls (w := W) x.name (by have := (H2.out.2.1 _ H2.out.1).z1 x (List.mem_of_getElem? hx); omega)
        rw [(HF.out.c i x hx).1] at this
        exact this)
      rw [hA] at HC1 HC2
      have Ha := hide (And.intro a03 hA)
      have hib : (i : Int) ≠ (i : Int) ↔ False := by simp
      clear hcl hx hf hbr r0 r1 lr a0w a03 hA hib
      go_wp2_with fail
      go_region_law (first | (refine step_open (by rfl) ?_; go_wp2_with fail; go_at_call 13; refine (HC1.out _ (Hf.out.trans (show Fr [] wr _ by (repeat (first | exact Fr.refl _ _ | apply Fr.drew | apply Fr.drewN | apply Fr.alloc | (refine Fr.setCell ?_ (by first | (left; simp [Value.ownBlock]; done) | (right; simp; omega) | (right; simp; done)) _)))))).mono ?_; rintro e w4 ⟨rfl, hf4⟩; have H4 := hide (Hf.out.trans ((show Fr [] wr _ by (repeat (first | exact Fr.refl _ _ | apply Fr.drew | apply Fr.drewN | apply Fr.alloc | (refine Fr.setCell ?_ (by first | (left; simp [Value.ownBlock]; done) | (right; simp; omega) | (right; simp; done)) _)))).trans hf4)); clear hf4; go_wp2_with fail))
      all_goals
        have hb4 := H3.out.2.fr0 H4.out
        have r0 := hb4.at_ 0 (v := .slice s.A1 s.n1 s.c1) rfl
        have r1 := hb4.at_ 1 (v := .slice s.A2 s.n2 s.c2) rfl
        have lr := hb4.lt
        have b0 := (H4.out.cell (p := ⟨b, off + i * 7, none⟩) lb3 (by simp)).trans Ha.out.1
        have lb4 := Nat.lt_of_lt_of_le lb3 H4.out.size
        rw [Ha.out.2] at r0
        clear hb4 q0 q1 lq a0 lb
        go_wp2_with fail
        go_region_law (first | (refine step_open (by rfl) ?_; go_wp2_with fail; go_at_call 15; refine (HC2.out _ (H4.out.trans (show Fr [] w4 _ by (repeat (first | exact Fr.refl _ _ | apply Fr.drew | apply Fr.drewN | apply Fr.alloc | (refine Fr.setCell ?_ (by first | (left; simp [Value.ownBlock]; done) | (right; simp; omega) | (right; simp; done)) _)))))).mono ?_; rintro e w5 ⟨rfl, hf5⟩; have H5 := hide (H4.out.trans ((show Fr [] w4 _ by (repeat (first | exact Fr.refl _ _ | apply Fr.drew | apply Fr.drewN | apply Fr.alloc | (refine Fr.setCell ?_ (by first | (left; simp [Value.ownBlock]; done) | (right; simp; omega) | (right; simp; done)) _)))).trans hf5)); clear hf5; go_wp2_with fail))
        all_goals
          have hb5 := H3.out.2.fr0 H5.out
          have q0 := hb5.at_ 0 (v := .slice s.A1 s.n1 s.c1) rfl
          have q1 := hb5.at_ 1 (v := .slice s.A2 s.n2 s.c2) rfl
          have lq := hb5.lt
          have d0 := (H5.out.cell (p := ⟨b, off + i * 7, none⟩) lb3 (by simp)).trans Ha.out.1
          have lb5 := Nat.lt_of_lt_of_le lb3 H5.out.size
          rw [Ha.out.2] at q0
          clear hb5 r0 r1 lr b0 lb4
          go_wp2_with fail
          refine (HC3.out _).mono ?_
          rintro e w6 ⟨rfl, hf6⟩
          have H6 := hide (H5.out.trans hf6)
          clear hf6
          go_wp2_with fail
          go_roundw
          case rel => exact ⟨i + 1, by omega, by go_num, H6.out⟩
          case measure => simp [intOf]; omega
    · have hnl : ¬ (i : Int) < (s.n1 : Int) := by omega
      clear hf hbr
      go_wp2_with fail
      go_loopw [8, 9, 10] (fun s3 _ _ wr2 => ∃ j : Nat, j ≤ s.n2 ∧ s3 = .int .i64 j ∧ Fr [] w3 wr2) (fun s3 _ _ _ => s.n2 - (intOf s3).toNat)
      case atStart => exact ⟨0, by omega, rfl, Hf.out⟩
      case round =>
        obtain ⟨j, hj, rfl, hf⟩ := hrel
        clear q0 q1 lq Hf
        have j0 : (0 : Int) ≤ (j : Int) := by omega
        have hbr := H3.out.2.fr0 hf
        have q0 := hbr.at_ 0 (v := .slice s.A1 s.n1 s.c1) rfl
        have q1 := hbr.at_ 1 (v := .slice s.A2 s.n2 s.c2) rfl
        have lq := hbr.lt
        have Hf := hide hf
        by_cases hjn : j < s.n2
        · have j1 : (j : Int) < (s.n2 : Int) := by omega
          obtain ⟨x, hx⟩ : ∃ x, s.rs[j]? = some x := ⟨s.rs[j]'(by have := H0.out.2.l2; omega), by simp⟩
          obtain ⟨b, off, hA, hbw, hcl⟩ := H0.out.2.r2.at_ encRs_len hx H0.out.2.l2
          have a0w := hcl 0 (.string x.name) rfl
          have lb3 := Nat.lt_of_lt_of_le hbw H3.out.1.size
          have a03 := (H3.out.1.cell (p := ⟨b, off + (j * 2 + 0), none⟩) hbw (by simp)).trans a0w
          have a0 := (hf.cell (p := ⟨b, off + (j * 2 + 0), none⟩) lb3 (by simp)).trans a03
          rw [Nat.add_zero] at a0 a03
          rw [hA] at q1
          have lb := Nat.lt_of_lt_of_le lb3 hf.size
          have HC1 := hide (fun W (hf : Fr [] w3 W) => HRes.out j x hx W (H3.out.1.trans hf))
          rw [hA] at HC1
          clear hcl hx hf hbr r0 r1 lr a0w a03 hA
          go_wp2_with fail
          go_region_law (first | (refine step_open (by rfl) ?_; go_wp2_with fail; go_at_call 15; refine (HC1.out _ (Hf.out.trans (show Fr [] wr _ by (repeat (first | exact Fr.refl _ _ | apply Fr.drew | apply Fr.drewN | apply Fr.alloc | (refine Fr.setCell ?_ (by first | (left; simp [Value.ownBlock]; done) | (right; simp; omega) | (right; simp; done)) _)))))).mono ?_; rintro e w4 ⟨rfl, hf4⟩; have H4 := hide (Hf.out.trans ((show Fr [] wr _ by (repeat (first | exact Fr.refl _ _ | apply Fr.drew | apply Fr.drewN | apply Fr.alloc | (refine Fr.setCell ?_ (by first | (left; simp [Value.ownBlock]; done) | (right; simp; omega) | (right; simp; done)) _)))).trans hf4)); clear hf4; go_wp2_with fail))
          all_goals
            go_wp2_with fail
            go_roundw
            case rel => exact ⟨j + 1, by omega, by go_num, H4.out⟩
            case measure => simp [intOf]; omega
        · have hnl2 : ¬ (j : Int) < (s.n2 : Int) := by omega
          clear hf hbr r0 r1 lr
          obtain ⟨-, -, ap, ln⟩ := kinds_apart s.cs s.n1 (by omega) (by have := H0.out.2.l1; omega)
          have HK := hide ln
          have la := kindN_lt s.cs true s.n1
          have lb := kindN_lt s.cs false s.n1
          have fb := u32_and_nat _ _ la lb
          rw [ap] at fb
          have hokj := H2.out.2.1 _ (H3.out.1.trans Hf.out)
          have HR1 := hide (roll_calls (w := wr) hokj (H3.out.1.trans Hf.out).size)
          have HR2 := hide (fun W (hf : Fr [] wr W) => shown_calls (w := W) (H2.out.2.1 _ ((H3.out.1.trans Hf.out).trans hf)) ((H3.out.1.trans Hf.out).trans hf).size)
          have hbr := hide (fun W (hf : Fr [] wr W) => (H3.out.2.fr0 (Hf.out.trans hf)))
          have HC1 := hide (fun W => count_calls (w := W) _ la)
          have HC2 := hide (fun W => count_calls (w := W) _ lb)
          rw [show s.val = .agg #[.slice s.A1 s.n1 s.c1, .slice s.A2 s.n2 s.c2] from rfl] at HR1
          simp only [show s.val = .agg #[.slice s.A1 s.n1 s.c1, .slice s.A2 s.n2 s.c2] from rfl] at HR2
          generalize kindN s.cs true s.n1 = ka at *
          generalize kindN s.cs false s.n1 = kb at *
          clear hokj la lb ap ln
          go_wp2_with fail
          refine HR1.out.mono ?_
          rintro e w4 ⟨rfl, hf4⟩
          have hb4 := hbr.out _ hf4
          clear q0 q1 lq
          have q0 := hb4.at_ 0 (v := .slice s.A1 s.n1 s.c1) rfl
          have q1 := hb4.at_ 1 (v := .slice s.A2 s.n2 s.c2) rfl
          have lq := hb4.lt
          have H4 := hide hf4
          clear hf4 hb4
          go_wp2_with fail
          refine (HR2.out _ H4.out).mono ?_
          rintro e w5 ⟨rfl, hf5⟩
          have hb5 := hbr.out _ (H4.out.trans hf5)
          clear q0 q1 lq
          have q0 := hb5.at_ 0 (v := .slice s.A1 s.n1 s.c1) rfl
          have q1 := hb5.at_ 1 (v := .slice s.A2 s.n2 s.c2) rfl
          have lq := hb5.lt
          have H5 := hide (H4.out.trans hf5)
          clear hf5 hb5
          go_wp2_with fail
          obtain ⟨na, hna, n32a⟩ : ∃ n, n = (bitsOf ka).length ∧ n ≤ 32 := ⟨_, rfl, bitsOf_len ka⟩
          obtain ⟨nb, hnb, n32b⟩ : ∃ n, n = (bitsOf kb).length ∧ n ≤ 32 := ⟨_, rfl, bitsOf_len kb⟩
          have hK := HK.out
          rw [← hna] at HC1
          rw [← hnb] at HC2
          rw [← hna, ← hnb] at hK
          have hi2 : (na : Int) + (nb : Int) = (s.n1 : Int) := by omega
          have hi3 : IntKind.i64.wrap ((na : Int) + (nb : Int)) = (s.n1 : Int) := by
            rw [IntKind.wrap_i64]; omega
          have hx1 := H5.out
          clear hna hnb hK HK HF HFind HRes n1 n2 HR1 HR2 hx1 hi2
          have q5 : w5.drew.cell? ⟨w.heap.size, 0, none⟩ = some (.slice s.A1 s.n1 s.c1) := q0
          go_region_held3 (fun w' => w'.cell? ⟨w.heap.size, 0, none⟩ = some (.slice s.A1 s.n1 s.c1)) (first | with_reducible exact q5 | with_reducible exact m6 | with_reducible exact m7)
            (first
              | (go_at_call 24; refine (HC1.out _).mono ?_; rintro e w6 ⟨rfl, hf6⟩; have H6 := hide (H5.out.trans ((show Fr [] w5 _ by (repeat (first | exact Fr.refl _ _ | apply Fr.drew | apply Fr.drewN | apply Fr.alloc | (refine Fr.setCell ?_ (by first | (left; simp [Value.ownBlock]; done) | (right; simp; omega) | (right; simp; done)) _)))).trans hf6)); have m6 := (hbr.out _ H6.out).at_ 0 (v := .slice s.A1 s.n1 s.c1) rfl; clear hf6)
              | (go_at_call 24; refine (HC2.out _).mono ?_; rintro e w7 ⟨rfl, hf7⟩; have H7 := hide (H6.out.trans ((show Fr [] w6 _ by (repeat (first | exact Fr.refl _ _ | apply Fr.drew | apply Fr.drewN | apply Fr.alloc | (refine Fr.setCell ?_ (by first | (left; simp [Value.ownBlock]; done) | (right; simp; omega) | (right; simp; done)) _)))).trans hf7)); have m7 := (hbr.out _ H7.out).at_ 0 (v := .slice s.A1 s.n1 s.c1) rfl; clear hf7))
          go_wp2_with fail
          go_ret
          exact ⟨rfl, ((H3.out.1.trans Hf.out).trans H7.out).below (by simp) (Nat.le_refl _)⟩
end Go.Proofs.YtiadeafibfkmeaaDoor

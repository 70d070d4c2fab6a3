/- SchemaFewer: the walk of the law. -/
import Derived.Test.YtiadeafibfkmeaaDoorAwakeS
import Derived.Test.YtiadeafibfkmeaaDoorSchemaArg
import Derived.Test.YtiadeafibfkmeaaDoorBits
namespace Go.Proofs.YtiadeafibfkmeaaDoor
open Go.RowKit
/-! ### The plain side -/
theorem findI_spec {l : List ByteArray} {s : ByteArray} {f : Nat} (h : findI l s = some f) : l[f]? = some s ∧ ∀ m < f, ∀ y, l[m]? = some y → y ≠ s := by
  unfold findI at h
  rw [List.findIdx?_eq_some_iff_getElem] at h
  obtain ⟨h1, h2, h3⟩ := h
  refine ⟨?_, fun m hm y hy => ?_⟩
  · rw [List.getElem?_eq_getElem h1]
    simpa using h2
  · have := h3 m hm
    rw [List.getElem?_eq_getElem (by omega)] at hy
    obtain rfl := Option.some.inj hy
    simpa using this
theorem findI_has {l : List ByteArray} {s : ByteArray} {i : Nat} (h : l[i]? = some s) : ∃ f, findI l s = some f ∧ f ≤ i := by
  cases hf : findI l s with
  | none =>
    unfold findI at hf
    rw [List.findIdx?_eq_none_iff] at hf
    have := hf s (List.mem_of_getElem? h)
    simp at this
  | some f =>
    refine ⟨f, rfl, ?_⟩
    rcases Nat.lt_or_ge i f with hlt | hge
    · exact absurd rfl ((findI_spec hf).2 i hlt s h)
    · exact hge
theorem findI_cut {l : List ByteArray} {s : ByteArray} {i k : Nat} (h : l[i]? = some s) (hk : i < k) : findI (l.take k) s = findI l s := by
  obtain ⟨f, hf, hfi⟩ := findI_has h
  obtain ⟨h1, h2⟩ := findI_spec hf
  rw [hf]
  refine findI_take (x := s) (fun m hm y hy => ?_) ?_ rfl
  · rw [List.getElem?_take] at hy
    split at hy
    · exact h2 m hm y hy
    · cases hy
  · rw [List.getElem?_take, if_pos (by omega)]; exact h1
theorem findI_no {l : List ByteArray} {s : ByteArray} {k : Nat} (h : findI l s = none) : findI (l.take k) s = none := by
  refine findI_none fun m hm y hy e => ?_
  subst e
  have hm' := List.mem_of_mem_take (List.mem_of_getElem? hy)
  obtain ⟨q, hq⟩ := List.getElem?_of_mem hm'
  obtain ⟨f, hf, -⟩ := findI_has hq
  rw [h] at hf
  cases hf
def Sa.cut (s : Sa) (k m : Nat) : Sa := { s with n1 := k, cs := s.cs.take k, n2 := m, rs := s.rs.take m }
theorem flat_nil {l : List Nat} {f : Nat → List Ch} (h : l.flatMap f = []) : ∀ i ∈ l, f i = [] := by
  intro i hi
  exact List.eq_nil_iff_forall_not_mem.2 fun c hc => by
    have : c ∈ l.flatMap f := List.mem_flatMap.2 ⟨i, hi, hc⟩
    rw [h] at this
    cases this
theorem nil_flat {l : List Nat} {f : Nat → List Ch} (h : ∀ i ∈ l, f i = []) : l.flatMap f = [] := List.flatMap_eq_nil_iff.2 h
theorem longFl_nil {k : ByteArray} {b : Bool} (h : longFl k b = []) : b = false := by
  unfold longFl at h
  cases b
  · rfl
  · simp at h
theorem fewer {s : Sa} (l1 : s.cs.length = s.n1) (l2 : s.rs.length = s.n2) (h : allFl s = []) {k m : Nat} (hk : k ≤ s.n1) (hm : m ≤ s.n2) : allFl (s.cut k m) = [] := by
  unfold allFl at h ⊢
  simp only [List.append_eq_nil_iff] at h ⊢
  obtain ⟨⟨⟨h1, h2⟩, h3⟩, h4⟩ := h
  have e1 := of_decide_eq_false (longFl_nil h1)
  have e2 := of_decide_eq_false (longFl_nil h3)
  have hc := flat_nil h2
  have hr := flat_nil h4
  refine ⟨⟨⟨?_, ?_⟩, ?_⟩, ?_⟩
  · rw [decide_eq_false (by show ¬ 16 < k; omega)]; rfl
  · refine nil_flat fun i hi => ?_
    have hik : i < k := List.mem_range.1 hi
    have := hc i (List.mem_range.2 (by omega))
    have hx : s.cs[i]? = some (s.cs[i]'(by omega)) := List.getElem?_eq_getElem (by omega)
    show ((s.cs.take k)[i]?.map _).getD [] = []
    rw [List.getElem?_take, if_pos hik, hx]
    rw [hx] at this
    simp only [Option.map_some, Option.getD_some] at this ⊢
    generalize s.cs[i]'(by omega) = x at hx this
    have hn : (s.cs.map (·.name))[i]? = some x.name := by rw [List.getElem?_map, hx]; rfl
    have ht : takenC (s.cut k m).cn x.name i = takenC s.cn x.name i := by
      unfold takenC
      rw [show (s.cut k m).cn = s.cn.take k from List.map_take.symm ▸ rfl, findI_cut hn hik]
    unfold compFl at this ⊢
    rw [ht]
    exact this
  · rw [decide_eq_false (by show ¬ 8 < m; omega)]; rfl
  · refine nil_flat fun i hi => ?_
    have him : i < m := List.mem_range.1 hi
    have := hr i (List.mem_range.2 (by omega))
    have hx : s.rs[i]? = some (s.rs[i]'(by omega)) := List.getElem?_eq_getElem (by omega)
    show ((s.rs.take m)[i]?.map _).getD [] = []
    rw [List.getElem?_take, if_pos him, hx]
    rw [hx] at this
    simp only [Option.map_some, Option.getD_some] at this ⊢
    generalize s.rs[i]'(by omega) = x at hx this
    have hn : (s.rs.map (·.name))[i]? = some x.name := by rw [List.getElem?_map, hx]; rfl
    have ht : takenC (s.cut k m).rn x.name i = takenC s.rn x.name i := by
      unfold takenC
      rw [show (s.cut k m).rn = s.rn.take m from List.map_take.symm ▸ rfl, findI_cut hn him]
    have hcn : (s.cut k m).cn = s.cn.take k := List.map_take.symm ▸ rfl
    unfold resFl at this ⊢
    rw [ht]
    unfold nameFl at this ⊢
    cases hb : nameB x.name with
    | false => rw [hb] at this; simp at this
    | true =>
      rw [hb] at this
      have hf : ((findI s.cn x.name).isSome || takenC s.rn x.name i) = false := by
        cases hq : ((findI s.cn x.name).isSome || takenC s.rn x.name i) with
        | false => rfl
        | true => rw [hq] at this; simp at this
      rw [Bool.or_eq_false_iff] at hf
      have hf1 : findI s.cn x.name = none := by simpa using hf.1
      rw [hcn, findI_no hf1, hf.2]
      simp
theorem Reads.cut {α : Type} {f : α → List Value} {w : World} {B size n : Nat} {A : Option Addr} {l : List α} (h : Reads w B size A n (l.flatMap f)) (hf : ∀ x, (f x).length = size) (hl : l.length = n) {k : Nat} (hk : k ≤ n) : Reads w B size A k ((l.take k).flatMap f) := by
  refine ⟨by rw [flat_len hf, List.length_take, hl, Nat.min_eq_left hk], fun hk0 => ?_⟩
  obtain ⟨b, off, e, hb, hc⟩ := h.2 (by omega)
  refine ⟨b, off, e, hb, fun j u hu => hc j u ?_⟩
  rw [← flat_take hf] at hu
  rw [List.getElem?_take] at hu
  split at hu
  · exact hu
  · cases hu
theorem SaOk.cut {w : World} {B : Nat} {s : Sa} (h : SaOk w B s) {k m : Nat} (hk : k ≤ s.n1) (hm : m ≤ s.n2) : SaOk w B (s.cut k m) :=
  ⟨by show (s.cs.take k).length = k; rw [List.length_take, h.l1]; omega, by have := h.b1; show k ≤ 40; omega, by have := h.k1; show k ≤ s.c1; omega, fun x hx => h.z1 x (List.mem_of_mem_take hx), h.r1.cut encC_len h.l1 hk,
   by show (s.rs.take m).length = m; rw [List.length_take, h.l2]; omega, by have := h.b2; show m ≤ 40; omega, by have := h.k2; show m ≤ s.c2; omega, fun x hx => h.z2 x (List.mem_of_mem_take hx), h.r2.cut encRs_len h.l2 hm⟩
set_option maxRecDepth 100000 in
set_option maxHeartbeats 8000000 in
theorem fewer_walk {w : World} {ad : Nat → Addr} (hs : Sents All18 w.heap.size w ad) {s : Sa} (hS : SaR w w.heap.size s) (a b : Int) :
    Calls Tryd.prog 4 #[s.val, .int .i64 a, .int .i64 b] w fun e w' => e = .returned (.bool true) ∧ Below w.heap.size w w' := by
  have hA := awake_calls (w := w.alloc (.cells #[.slice s.A1 s.n1 s.c1, .slice s.A2 s.n2 s.c2] 25)) ((hs.fr0 ((Fr.refl _ _).alloc _)).rebase)
  have HA := hide hA
  have H0 := hide (And.intro hs hS)
  have hv : s.val = .agg #[.slice s.A1 s.n1 s.c1, .slice s.A2 s.n2 s.c2] := rfl
  rw [hv]
  clear hs hS hA hv
  go_enter Tryd.func4, Tryd.ntmps4
  go_wp2_with fail
  refine HA.out.mono ?_
  rintro e w1 ⟨rfl, hf⟩
  have hf1 : Fr [] w w1 := ((Fr.refl _ _).alloc _).trans hf
  have hb1 := (Blk.new w 25 #[.slice s.A1 s.n1 s.c1, .slice s.A2 s.n2 s.c2]).fr0 hf
  have p0 := hb1.at_ 0 (v := .slice s.A1 s.n1 s.c1) rfl
  have p1 := hb1.at_ 1 (v := .slice s.A2 s.n2 s.c2) rfl
  have lp := hb1.lt
  have H1 := hide (And.intro hf1 hb1)
  have HG := hide (great_calls (H0.out.2.below (Fr.below hf1 (by simp) (Nat.le_refl _))) hf1.size)
  clear hf hf1 hb1 HA
  go_wp2_with fail
  refine HG.out.mono ?_
  rintro e w2 ⟨hf2, rfl | ⟨rfl, n40, m40, z1, z2⟩⟩
  · have H2 := hide hf2
    clear hf2
    go_wp2_with fail
    go_ret
    exact ⟨rfl, (H1.out.1.trans H2.out).below (by simp) (Nat.le_refl _)⟩
  have hf02 := H1.out.1.trans hf2
  have hok := (H0.out.2.below (Fr.below hf02 (by simp) (Nat.le_refl _))).ok n40 m40 z1 z2
  have hb2 := H1.out.2.fr0 hf2
  have hk1 := hok.k1
  have hk2 := hok.k2
  have q0 := hb2.at_ 0 (v := .slice s.A1 s.n1 s.c1) rfl
  have q1 := hb2.at_ 1 (v := .slice s.A2 s.n2 s.c2) rfl
  have lq := hb2.lt
  have H2 := hide (And.intro hf02 (And.intro hok hb2))
  clear hf2 hf02 hok hb2 z1 z2 HG p0 p1 lp H1
  obtain ⟨u, hu, hu2⟩ := u64_nat a
  obtain ⟨u', hu', hu2'⟩ := u64_nat b
  go_upto_region 6 with (fail)
  have hb3 := H2.out.2.2.alloc (.cells #[.slice s.A1 s.n1 s.c1, .slice s.A2 s.n2 s.c2] 25)
  have hbt := Blk.new w2 25 #[.slice s.A1 s.n1 s.c1, .slice s.A2 s.n2 s.c2]
  have hf3 : Fr [] w (w2.alloc (.cells #[.slice s.A1 s.n1 s.c1, .slice s.A2 s.n2 s.c2] 25)) := H2.out.1.alloc _
  generalize hbp : w2.heap.size = bt at *
  generalize w2.alloc (.cells #[.slice s.A1 s.n1 s.c1, .slice s.A2 s.n2 s.c2] 25) = w3 at *
  obtain ⟨k, hk⟩ : ∃ k, k = u % (s.n1 + 1) := ⟨_, rfl⟩
  obtain ⟨m, hm⟩ : ∃ m, m = u' % (s.n2 + 1) := ⟨_, rfl⟩
  have hkn : k ≤ s.n1 := by rw [hk]; have := Nat.mod_lt u (y := s.n1 + 1) (by omega); omega
  have hmn : m ≤ s.n2 := by rw [hm]; have := Nat.mod_lt u' (y := s.n2 + 1) (by omega); omega
  obtain ⟨N1, hN1⟩ : ∃ N1, N1 = s.n1 + 1 := ⟨_, rfl⟩
  obtain ⟨N2, hN2⟩ : ∃ N2, N2 = s.n2 + 1 := ⟨_, rfl⟩
  have hw1 : IntKind.i64.wrap ((s.n1 : Int) + 1) = (N1 : Int) := by rw [hN1, IntKind.wrap_i64]; omega
  have hw2 : IntKind.i64.wrap ((s.n2 : Int) + 1) = (N2 : Int) := by rw [hN2, IntKind.wrap_i64]; omega
  have hv1 : IntKind.u64.wrap (N1 : Int) = (N1 : Int) := by rw [IntKind.wrap_u64]; omega
  have hv2 : IntKind.u64.wrap (N2 : Int) = (N2 : Int) := by rw [IntKind.wrap_u64]; omega
  have t1 : (u : Int).tmod (N1 : Int) = (k : Int) := by rw [hk, hN1, Int.tmod_eq_emod_of_nonneg (by omega)]; rfl
  have t2 : (u' : Int).tmod (N2 : Int) = (m : Int) := by rw [hm, hN2, Int.tmod_eq_emod_of_nonneg (by omega)]; rfl
  have z1 : ¬ N1 = 0 := by omega
  have kc2 : k ≤ s.c1 := by omega
  have mc2 : m ≤ s.c2 := by omega
  have z2 : ¬ N2 = 0 := by omega
  have wk' : IntKind.i64.wrap (k : Int) = (k : Int) := by rw [IntKind.wrap_i64]; omega
  have wm' : IntKind.i64.wrap (m : Int) = (m : Int) := by rw [IntKind.wrap_i64]; omega
  have k0 : (0 : Int) ≤ (k : Int) := by omega
  have m0 : (0 : Int) ≤ (m : Int) := by omega
  have kc : (k : Int) ≤ (s.c1 : Int) := by omega
  have mc : (m : Int) ≤ (s.c2 : Int) := by omega
  have wk : IntKind.u64.wrap (k : Int) = (k : Int) := by rw [IntKind.wrap_u64]; omega
  have wm : IntKind.u64.wrap (m : Int) = (m : Int) := by rw [IntKind.wrap_u64]; omega
  have r0 := hb3.at_ 0 (v := .slice s.A1 s.n1 s.c1) rfl
  have r1 := hb3.at_ 1 (v := .slice s.A2 s.n2 s.c2) rfl
  have v0 := hbt.at_ 0 (v := .slice s.A1 s.n1 s.c1) rfl
  have v1 := hbt.at_ 1 (v := .slice s.A2 s.n2 s.c2) rfl
  have x0 := hbt.frozen 0
  have x1 := hbt.frozen 1
  have lr := hb3.lt
  have lt_ := hbt.lt
  have hne : bt ≠ w.heap.size := by omega
  have hne' : w.heap.size ≠ bt := by omega
  have H3 := hide (And.intro hb3 (And.intro hbt (And.intro hf3 (And.intro hkn hmn))))
  clear hN1 hN2 hb3 hbt hf3 hk hm hkn hmn q0 q1 lq hu2 hu2' hk1 hk2
  go_region_law (fail)
  all_goals
    have hb4 : Blk (w3.setCell ⟨bt, 0, none⟩ (.slice s.A1 k s.c1)).drew bt 25 #[.slice s.A1 k s.c1, .slice s.A2 s.n2 s.c2] := H3.out.2.1.set_ 0 _
    have hs4 : Blk (w3.setCell ⟨bt, 0, none⟩ (.slice s.A1 k s.c1)).drew w.heap.size 25 #[.slice s.A1 s.n1 s.c1, .slice s.A2 s.n2 s.c2] := H3.out.1.far (by show w.heap.size ≠ bt; exact hne') _
    have hf4 : Fr [] w (w3.setCell ⟨bt, 0, none⟩ (.slice s.A1 k s.c1)).drew := (H3.out.2.2.1.setCell (p := ⟨bt, 0, none⟩) (.inr (by have := H2.out.1.size; show w.heap.size ≤ bt; omega)) _).drew
    generalize (w3.setCell ⟨bt, 0, none⟩ (.slice s.A1 k s.c1)).drew = w4 at *
    clear r0 r1 v0 v1 x0 x1 lr lt_ t1 z1 hw1 hv1 wk wk'
    have r0 := hs4.at_ 0 (v := .slice s.A1 s.n1 s.c1) rfl
    have r1 := hs4.at_ 1 (v := .slice s.A2 s.n2 s.c2) rfl
    have v0 := hb4.at_ 0 (v := .slice s.A1 k s.c1) rfl
    have v1 := hb4.at_ 1 (v := .slice s.A2 s.n2 s.c2) rfl
    have x0 := hb4.frozen 0
    have x1 := hb4.frozen 1
    have lr := hs4.lt
    have lt_ := hb4.lt
    have H4 := hide (And.intro hb4 (And.intro hs4 hf4))
    clear hb4 hs4 hf4
    go_wp2_with fail
    go_region_law (fail)
    all_goals
      have hb5 : Blk (w4.setCell ⟨bt, 1, none⟩ (.slice s.A2 m s.c2)).drew bt 25 #[.slice s.A1 k s.c1, .slice s.A2 m s.c2] := H4.out.1.set_ 1 _
      have hs5 : Blk (w4.setCell ⟨bt, 1, none⟩ (.slice s.A2 m s.c2)).drew w.heap.size 25 #[.slice s.A1 s.n1 s.c1, .slice s.A2 s.n2 s.c2] := H4.out.2.1.far (by show w.heap.size ≠ bt; exact hne') _
      have hf5 : Fr [] w (w4.setCell ⟨bt, 1, none⟩ (.slice s.A2 m s.c2)).drew := (H4.out.2.2.setCell (p := ⟨bt, 1, none⟩) (.inr (by have := H2.out.1.size; show w.heap.size ≤ bt; omega)) _).drew
      generalize (w4.setCell ⟨bt, 1, none⟩ (.slice s.A2 m s.c2)).drew = w5 at *
      clear r0 r1 v0 v1 x0 x1 lr lt_ t2 z2 hw2 hv2 wm wm'
      have r0 := hs5.at_ 0 (v := .slice s.A1 s.n1 s.c1) rfl
      have r1 := hs5.at_ 1 (v := .slice s.A2 s.n2 s.c2) rfl
      have v0 := hb5.at_ 0 (v := .slice s.A1 k s.c1) rfl
      have v1 := hb5.at_ 1 (v := .slice s.A2 m s.c2) rfl
      have lr := hs5.lt
      have lt_ := hb5.lt
      have H5 := hide hf5
      have HCk := hide (fun W (hf : Fr [] w W) => And.intro (check_calls (s := s) (H0.out.1.fr0 hf) ((H0.out.2.below (hf.below (by simp) (Nat.le_refl _))).ok n40 m40 H2.out.2.1.z1 H2.out.2.1.z2)) (check_calls (s := s.cut k m) (H0.out.1.fr0 hf) (((H0.out.2.below (hf.below (by simp) (Nat.le_refl _))).ok n40 m40 H2.out.2.1.z1 H2.out.2.1.z2).cut H3.out.2.2.2.1 H3.out.2.2.2.2)))
      have hnn := run_neq_held_nil (P := Tryd.prog)
      have e0 := eql_nil_false
      have e1 := eql_nil_nil
      have n1 : ∀ (t : TypeId) (x : Value) (W : World), (binOp .neq 29 (.iface t x) .nilIface).run Tryd.prog W = .ok (.bool true) W := fun t x W => run_neq_held_nil W 29 t x (by kernel_rfl)
      have n2 : ∀ (W : World), (binOp .neq 29 .nilIface .nilIface).run Tryd.prog W = .ok (.bool false) W := fun W => by kernel_rfl
      clear hb5 hs5 hf5 hnn
      go_wp2_with fail
      refine (HCk.out _ H5.out).1.mono ?_
      rintro e w6 ⟨v6, rfl, hv6, hf6⟩
      have H6 := hide (H5.out.trans hf6)
      rcases hv6.form with ⟨rfl, hnil⟩ | ⟨-, t, a, rfl⟩
      · have u0_ := (hf6.cell (p := ⟨bt, 0, none⟩) lt_ (by simp)).trans v0
        have u1_ := (hf6.cell (p := ⟨bt, 1, none⟩) lt_ (by simp)).trans v1
        have lu := Nat.lt_of_lt_of_le lt_ hf6.size
        have hfew := fewer H2.out.2.1.l1 H2.out.2.1.l2 hnil H3.out.2.2.2.1 H3.out.2.2.2.2
        have Hfew := hide hfew
        clear hv6 hf6 hnil hfew
        go_wp2_with fail
        refine (HCk.out _ H6.out).2.mono ?_
        rintro e w7 ⟨v7, rfl, hv7, hf7⟩
        rw [Hfew.out] at hv7
        obtain ⟨rfl, -⟩ := hv7.form.resolve_right (fun h => h.1 rfl)
        have H7 := hide (H6.out.trans hf7)
        clear hv7 hf7
        go_wp2_with fail
        go_ret
        exact ⟨rfl, H7.out.below (by simp) (Nat.le_refl _)⟩
      · clear hv6 hf6
        go_wp2_with fail
        go_ret
        exact ⟨rfl, H6.out.below (by simp) (Nat.le_refl _)⟩
end Go.Proofs.YtiadeafibfkmeaaDoor

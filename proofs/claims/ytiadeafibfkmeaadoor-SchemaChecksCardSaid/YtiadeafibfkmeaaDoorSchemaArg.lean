/- A schema as an argument. -/
import Derived.Test.YtiadeafibfkmeaaDoorComp
namespace Go.Proofs.YtiadeafibfkmeaaDoor
open Go.ChangeShapes Go.WideShapes Go.ChangeAt Go.RowKit Go.Deep
structure SaR (w : World) (B : Nat) (s : Sa) : Prop where
  l1 : s.cs.length = s.n1
  m1 : s.n1 ≤ maxLen ∧ s.n1 ≤ s.c1
  r1 : Reads w B 7 s.A1 s.n1 (s.cs.flatMap encC)
  l2 : s.rs.length = s.n2
  m2 : s.n2 ≤ maxLen ∧ s.n2 ≤ s.c2
  r2 : Reads w B 2 s.A2 s.n2 (s.rs.flatMap encRs)
theorem schLeaves : leaves Tryd.prog 5 25 = some [.sub 22, .sub 23] := by kernel_rfl
theorem compLeaves : leaves Tryd.prog 6 47 = some [.string, .int .i64, .bool, .int .i64, .int .i64, .int .i64, .int .i64] := by kernel_rfl
theorem resLeaves : leaves Tryd.prog 6 57 = some [.string, .int .i64] := by kernel_rfl
theorem compCells : Tryd.prog.cellsOf 47 = 7 := by kernel_rfl
theorem resCells : Tryd.prog.cellsOf 57 = 2 := by kernel_rfl
set_option maxRecDepth 100000 in
theorem open_schema {H : Type} {enc : TypeId × Value → H} {W : World} {base : Nat} {spare : Nat → Bool} {held : Bool} {v : Value} {d : DataW H} {ps : List MemPlace} {r : Reach} {b0 : Nat}
    (hv : Value.okWide Tryd.prog W r b0 25 v) (h : DataW.Trod enc Tryd.prog W base spare held 25 v d ps) : ∃ s : Sa, v = s.val ∧ SaR W W.heap.size s := by
  obtain ⟨cs, rfl, hsz⟩ := okWide_struct Tryd.underlying25 hv
  obtain ⟨fuel, hf⟩ := h
  have h4 := leaves_ok 5 _ _ _ _ _ schLeaves hf
  have key : ∀ l : List Value, AllOk Tryd.prog enc W base spare held [.sub 22, .sub 23] l → ∃ s : Sa, l = [.slice s.A1 s.n1 s.c1, .slice s.A2 s.n2 s.c2] ∧ SaR W W.heap.size s := by
    intro l h4
    cases h4 with | cons a0 b0 => cases b0 with | cons a1 b1 => cases b1 with | nil =>
    obtain ⟨n0, y0, e0⟩ := a0
    obtain ⟨n1, y1, e1⟩ := a1
    obtain ⟨A1, k1, c1, l1, hv1, q1, q2, _, q3⟩ := open_listT (k := 7) encC (fun _ => True) encC_len Tryd.underlying22 compCells (by omega) (fun n cs x h => by
      have h4 := leaves_ok 6 _ _ _ _ _ compLeaves h
      cases h4 with | cons a0 b0 => cases b0 with | cons a1 b1 => cases b1 with | cons a2 b2 => cases b2 with | cons a3 b3 => cases b3 with | cons a4 b4 => cases b4 with | cons a5 b5 => cases b5 with | cons a6 b6 => cases b6 with | nil =>
      obtain ⟨x0, rfl, _⟩ := a0
      obtain ⟨x1, rfl, _⟩ := a1
      obtain ⟨x2, rfl⟩ := a2
      obtain ⟨x3, rfl, _⟩ := a3
      obtain ⟨x4, rfl, _⟩ := a4
      obtain ⟨x5, rfl, _⟩ := a5
      obtain ⟨x6, rfl, _⟩ := a6
      exact ⟨⟨x0, x1, x2, x3, x4, x5, x6⟩, rfl, trivial⟩) e0
    obtain ⟨A2, k2, c2, l2, hv2, p1, p2, _, p3⟩ := open_listT (k := 2) encRs (fun _ => True) encRs_len Tryd.underlying23 resCells (by omega) (fun n cs x h => by
      have h4 := leaves_ok 6 _ _ _ _ _ resLeaves h
      cases h4 with | cons a0 b0 => cases b0 with | cons a1 b1 => cases b1 with | nil =>
      obtain ⟨x0, rfl, _⟩ := a0
      obtain ⟨x1, rfl, _⟩ := a1
      exact ⟨⟨x0, x1⟩, rfl, trivial⟩) e1
    rw [List.singleton_inj] at hv1 hv2
    subst hv1; subst hv2
    exact ⟨⟨A1, k1, c1, l1, A2, k2, c2, l2⟩, rfl, ⟨q1, q2, q3, p1, p2, p3⟩⟩
  obtain ⟨s, e, hs⟩ := key _ h4
  refine ⟨s, ?_, hs⟩
  unfold Sa.val
  congr 1
  apply Array.toList_inj.1
  exact e
theorem SaR.below {w w' : World} {B : Nat} {s : Sa} (h : SaR w B s) (hb : Below B w w') : SaR w' B s := ⟨h.l1, h.m1, h.r1.below hb, h.l2, h.m2, h.r2.below hb⟩
theorem SaR.ok {w : World} {B : Nat} {s : Sa} (h : SaR w B s) (b1 : s.n1 ≤ 40) (b2 : s.n2 ≤ 40) (z1 : ∀ x ∈ s.cs, x.name.size ≤ 100) (z2 : ∀ x ∈ s.rs, x.name.size ≤ 100) : SaOk w B s :=
  ⟨h.l1, b1, h.m1.2, z1, h.r1, h.l2, b2, h.m2.2, z2, h.r2⟩
set_option maxRecDepth 100000 in
set_option maxHeartbeats 4000000 in
theorem great_calls {B : Nat} {w : World} {s : Sa} (hS : SaR w B s) (hB : B ≤ w.heap.size) :
    Calls Tryd.prog 9 #[s.val] w fun e w' => Fr [] w w' ∧ (e = .returned (.bool true) ∨ (e = .returned (.bool false) ∧ s.n1 ≤ 40 ∧ s.n2 ≤ 40 ∧ (∀ x ∈ s.cs, x.name.size ≤ 100) ∧ ∀ x ∈ s.rs, x.name.size ≤ 100)) := by
  have HS_ := hide hS
  have hm1 := hS.m1.1
  have hm2 := hS.m2.1
  unfold maxLen at hm1 hm2
  have hv : s.val = .agg #[.slice s.A1 s.n1 s.c1, .slice s.A2 s.n2 s.c2] := rfl
  rw [hv]
  clear hS hv
  have hf1 : Fr [] w (w.alloc (.cells #[.slice s.A1 s.n1 s.c1, .slice s.A2 s.n2 s.c2] 25)) := (Fr.refl _ _).alloc _
  by_cases h1 : 40 < s.n1
  · have h1' : (40 : Int) < (s.n1 : Int) := by omega
    go_enter Tryd.func9, Tryd.ntmps9
    go_wp2_with fail
    go_ret
    exact ⟨hf1, .inl rfl⟩
  by_cases h2 : 40 < s.n2
  · have h1' : ¬ (40 : Int) < (s.n1 : Int) := by omega
    have h2' : (40 : Int) < (s.n2 : Int) := by omega
    go_enter Tryd.func9, Tryd.ntmps9
    go_wp2_with fail
    go_ret
    exact ⟨hf1, .inl rfl⟩
  have h1' : ¬ (40 : Int) < (s.n1 : Int) := by omega
  have h2' : ¬ (40 : Int) < (s.n2 : Int) := by omega
  clear hf1
  go_enter Tryd.func9, Tryd.ntmps9
  go_upto_region 3 with (fail)
  have hb := Blk.new w 25 #[.slice s.A1 s.n1 s.c1, .slice s.A2 s.n2 s.c2]
  have hf1 : Fr [] w (w.alloc (.cells #[.slice s.A1 s.n1 s.c1, .slice s.A2 s.n2 s.c2] 25)) := (Fr.refl _ _).alloc _
  generalize w.alloc (.cells #[.slice s.A1 s.n1 s.c1, .slice s.A2 s.n2 s.c2] 25) = w1 at *
  have p0 := hb.at_ 0 (v := .slice s.A1 s.n1 s.c1) rfl
  have p1 := hb.at_ 1 (v := .slice s.A2 s.n2 s.c2) rfl
  have lp := hb.lt
  have HF := hide hf1
  clear hb hf1
  go_wp2_with fail
  go_loopw [3] (fun s3 wr => w1 = wr ∧ ∃ i : Nat, i ≤ s.n1 ∧ s3 = .int .i64 i ∧ ∀ m < i, ∀ x, s.cs[m]? = some x → x.name.size ≤ 100) (fun s3 _ => s.n1 - (intOf s3).toNat)
  case atStart => exact ⟨rfl, 0, by omega, rfl, fun m hm => by omega⟩
  case round =>
    obtain ⟨rfl, i, hi, rfl, hsm⟩ := hrel
    have i0 : (0 : Int) ≤ (i : Int) := by omega
    have Hsm := hide hsm
    by_cases hin : i < s.n1
    · have i1 : (i : Int) < (s.n1 : Int) := by omega
      obtain ⟨x, hx⟩ : ∃ x, s.cs[i]? = some x := ⟨s.cs[i]'(by have := HS_.out.l1; omega), by simp⟩
      obtain ⟨b, off, hA, hbB, hcl⟩ := HS_.out.r1.at_ encC_len hx HS_.out.l1
      have a0 := (HF.out.cell (p := ⟨b, off + (i * 7 + 0), none⟩) (by show b < _; omega) (by simp)).trans (hcl 0 (.string x.name) rfl)
      rw [Nat.add_zero] at a0
      rw [hA] at p0
      have Hx := hide hx
      clear hcl hx hsm
      by_cases hsz : 100 < x.name.size
      · have hsz' : (100 : Int) < (x.name.size : Int) := by omega
        go_wp2_with fail
        go_ret
        exact ⟨HF.out, .inl rfl⟩
      · have hsz' : ¬ (100 : Int) < (x.name.size : Int) := by omega
        go_wp2_with fail
        go_roundw
        case rel =>
          refine ⟨trivial, i + 1, by omega, by go_num, fun m hm y hy => ?_⟩
          rcases Nat.lt_or_ge m i with hlt | hge
          · exact Hsm.out m hlt y hy
          · obtain rfl : m = i := by omega
            obtain rfl := Option.some.inj (Hx.out.symm.trans hy)
            omega
        case measure => simp [intOf]; omega
    · have hie : i = s.n1 := by omega
      have hnl : ¬ (i : Int) < (s.n1 : Int) := by omega
      have hall1 : ∀ x ∈ s.cs, x.name.size ≤ 100 := fun x hx => by
        obtain ⟨q, hq⟩ := List.getElem?_of_mem hx
        have hql := (List.getElem?_eq_some_iff.1 hq).1
        exact hsm q (by have := HS_.out.l1; omega) x hq
      have Hall1 := hide hall1
      clear hie hsm Hsm hall1
      go_wp2_with fail
      go_loopw [4] (fun s4 w2 => w1 = w2 ∧ ∃ k : Nat, k ≤ s.n2 ∧ s4 = .int .i64 k ∧ ∀ m < k, ∀ x, s.rs[m]? = some x → x.name.size ≤ 100) (fun s4 _ => s.n2 - (intOf s4).toNat)
      case atStart => exact ⟨rfl, 0, by omega, rfl, fun m hm => by omega⟩
      case round =>
        obtain ⟨rfl, k, hk, rfl, hsm⟩ := hrel
        have k0 : (0 : Int) ≤ (k : Int) := by omega
        have Hsm := hide hsm
        by_cases hkn : k < s.n2
        · have k1 : (k : Int) < (s.n2 : Int) := by omega
          obtain ⟨x, hx⟩ : ∃ x, s.rs[k]? = some x := ⟨s.rs[k]'(by have := HS_.out.l2; omega), by simp⟩
          obtain ⟨b, off, hA, hbB, hcl⟩ := HS_.out.r2.at_ encRs_len hx HS_.out.l2
          have a0 := (HF.out.cell (p := ⟨b, off + (k * 2 + 0), none⟩) (by show b < _; omega) (by simp)).trans (hcl 0 (.string x.name) rfl)
          rw [Nat.add_zero] at a0
          rw [hA] at p1
          have Hx := hide hx
          clear hcl hx hsm
          by_cases hsz : 100 < x.name.size
          · have hsz' : (100 : Int) < (x.name.size : Int) := by omega
            go_wp2_with fail
            go_ret
            exact ⟨HF.out, .inl rfl⟩
          · have hsz' : ¬ (100 : Int) < (x.name.size : Int) := by omega
            go_wp2_with fail
            go_roundw
            case rel =>
              refine ⟨trivial, k + 1, by omega, by go_num, fun m hm y hy => ?_⟩
              rcases Nat.lt_or_ge m k with hlt | hge
              · exact Hsm.out m hlt y hy
              · obtain rfl : m = k := by omega
                obtain rfl := Option.some.inj (Hx.out.symm.trans hy)
                omega
            case measure => simp [intOf]; omega
        · have hke : k = s.n2 := by omega
          have hnk : ¬ (k : Int) < (s.n2 : Int) := by omega
          have hall2 : ∀ x ∈ s.rs, x.name.size ≤ 100 := fun x hx => by
            obtain ⟨q, hq⟩ := List.getElem?_of_mem hx
            have hql := (List.getElem?_eq_some_iff.1 hq).1
            exact hsm q (by have := HS_.out.l2; omega) x hq
          have Hall2 := hide hall2
          clear hke hsm Hsm hall2
          go_wp2_with fail
          go_ret
          exact ⟨HF.out, .inr ⟨rfl, by omega, by omega, Hall1.out, Hall2.out⟩⟩
end Go.Proofs.YtiadeafibfkmeaaDoor

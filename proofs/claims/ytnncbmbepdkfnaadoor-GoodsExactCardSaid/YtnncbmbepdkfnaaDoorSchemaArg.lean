/- A schema as an argument, with names of any length. -/
import Derived.Test.YtnncbmbepdkfnaaDoorComp
namespace Go.Proofs.YtnncbmbepdkfnaaDoor
open Go.ChangeShapes Go.WideShapes Go.ChangeAt Go.RowKit Go.Deep
structure SaR (w : World) (B : Nat) (s : Sa) : Prop where
  l1 : s.cs.length = s.n1
  m1 : s.n1 ≤ maxLen ∧ s.n1 ≤ s.c1
  r1 : Reads w B 7 s.A1 s.n1 (s.cs.flatMap encC)
  z1 : ∀ x ∈ s.cs, x.name.size ≤ 9223372036854775807
  z2 : ∀ x ∈ s.rs, x.name.size ≤ 9223372036854775807
  l2 : s.rs.length = s.n2
  m2 : s.n2 ≤ maxLen ∧ s.n2 ≤ s.c2
  r2 : Reads w B 2 s.A2 s.n2 (s.rs.flatMap encRs)
theorem schLeaves : leaves Tryd.prog 5 32 = some [.sub 29, .sub 30] := by kernel_rfl
theorem compLeaves : leaves Tryd.prog 6 81 = some [.string, .int .i64, .bool, .int .i64, .int .i64, .int .i64, .int .i64] := by kernel_rfl
theorem resLeaves : leaves Tryd.prog 6 65 = some [.string, .int .i64] := by kernel_rfl
theorem compCells : Tryd.prog.cellsOf 81 = 7 := by kernel_rfl
theorem resCells : Tryd.prog.cellsOf 65 = 2 := by kernel_rfl
set_option maxRecDepth 100000 in
theorem open_schema {H : Type} {enc : TypeId × Value → H} {W : World} {base : Nat} {spare : Nat → Bool} {held : Bool} {v : Value} {d : DataW H} {ps : List MemPlace} {r : Reach} {b0 : Nat}
    (hv : Value.okWide Tryd.prog W r b0 32 v) (h : DataW.Trod enc Tryd.prog W base spare held 32 v d ps) : ∃ s : Sa, v = s.val ∧ SaR W W.heap.size s := by
  obtain ⟨cs, rfl, hsz⟩ := okWide_struct Tryd.underlying32 hv
  obtain ⟨fuel, hf⟩ := h
  have h4 := leaves_ok 5 _ _ _ _ _ schLeaves hf
  have key : ∀ l : List Value, AllOk Tryd.prog enc W base spare held [.sub 29, .sub 30] l → ∃ s : Sa, l = [.slice s.A1 s.n1 s.c1, .slice s.A2 s.n2 s.c2] ∧ SaR W W.heap.size s := by
    intro l h4
    cases h4 with | cons a0 b0 => cases b0 with | cons a1 b1 => cases b1 with | nil =>
    obtain ⟨n0, y0, e0⟩ := a0
    obtain ⟨n1, y1, e1⟩ := a1
    obtain ⟨A1, k1, c1, l1, hv1, q1, q2, z1, q3⟩ := open_listT (k := 7) encC (fun x => x.name.size ≤ 9223372036854775807) encC_len Tryd.underlying29 compCells (by omega) (fun n cs x h => by
      have h4 := leaves_ok 6 _ _ _ _ _ compLeaves h
      cases h4 with | cons a0 b0 => cases b0 with | cons a1 b1 => cases b1 with | cons a2 b2 => cases b2 with | cons a3 b3 => cases b3 with | cons a4 b4 => cases b4 with | cons a5 b5 => cases b5 with | cons a6 b6 => cases b6 with | nil =>
      obtain ⟨x0, rfl, hz⟩ := a0
      obtain ⟨x1, rfl, _⟩ := a1
      obtain ⟨x2, rfl⟩ := a2
      obtain ⟨x3, rfl, _⟩ := a3
      obtain ⟨x4, rfl, _⟩ := a4
      obtain ⟨x5, rfl, _⟩ := a5
      obtain ⟨x6, rfl, _⟩ := a6
      exact ⟨⟨x0, x1, x2, x3, x4, x5, x6⟩, rfl, by unfold maxLen at hz; show x0.size ≤ _; omega⟩) e0
    obtain ⟨A2, k2, c2, l2, hv2, p1, p2, z2, p3⟩ := open_listT (k := 2) encRs (fun x => x.name.size ≤ 9223372036854775807) encRs_len Tryd.underlying30 resCells (by omega) (fun n cs x h => by
      have h4 := leaves_ok 6 _ _ _ _ _ resLeaves h
      cases h4 with | cons a0 b0 => cases b0 with | cons a1 b1 => cases b1 with | nil =>
      obtain ⟨x0, rfl, hz⟩ := a0
      obtain ⟨x1, rfl, _⟩ := a1
      exact ⟨⟨x0, x1⟩, rfl, by unfold maxLen at hz; show x0.size ≤ _; omega⟩) e1
    rw [List.singleton_inj] at hv1 hv2
    subst hv1; subst hv2
    exact ⟨⟨A1, k1, c1, l1, A2, k2, c2, l2⟩, rfl, ⟨q1, q2, q3, z1, z2, p1, p2, p3⟩⟩
  obtain ⟨s, e, hs⟩ := key _ h4
  refine ⟨s, ?_, hs⟩
  unfold Sa.val
  congr 1
  apply Array.toList_inj.1
  exact e
theorem SaR.below {w w' : World} {B : Nat} {s : Sa} (h : SaR w B s) (hb : Below B w w') : SaR w' B s := ⟨h.l1, h.m1, h.r1.below hb, h.z1, h.z2, h.l2, h.m2, h.r2.below hb⟩
theorem SaR.ok {w : World} {B : Nat} {s : Sa} (h : SaR w B s) (b1 : s.n1 ≤ 40) (b2 : s.n2 ≤ 40) : SaOk w B s :=
  ⟨h.l1, b1, h.m1.2, h.z1, h.r1, h.l2, b2, h.m2.2, h.z2, h.r2⟩
end Go.Proofs.YtnncbmbepdkfnaaDoor

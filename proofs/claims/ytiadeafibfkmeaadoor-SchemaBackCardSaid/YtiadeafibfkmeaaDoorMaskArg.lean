/- A set of components as an argument. -/
import Derived.Test.YtiadeafibfkmeaaDoorLeaf
namespace Go.Proofs.YtiadeafibfkmeaaDoor
open Go.ChangeShapes Go.WideShapes Go.ChangeAt Go.RowKit Go.Deep
theorem wf_u32 {n : Int} (h : (Lit.int .u32 n).wf = true) : 0 ≤ n ∧ n ≤ 4294967295 := by
  have h1 : IntKind.u32.min = 0 := rfl
  have h2 : IntKind.u32.max = 4294967295 := rfl
  simp only [Lit.wf, Bool.and_eq_true, decide_eq_true_eq] at h
  omega
set_option maxRecDepth 100000 in
theorem open_mask {H : Type} {enc : TypeId × Value → H} {W : World} {base : Nat} {spare : Nat → Bool} {held : Bool} {v : Value} {d : DataW H} {ps : List MemPlace} {r : Reach} {b0 : Nat}
    (hv : Value.okWide Tryd.prog W r b0 50 v) (h : DataW.Trod enc Tryd.prog W base spare held 50 v d ps) : ∃ m : Nat, v = .int .u32 m ∧ m < 4294967296 := by
  obtain ⟨n, rfl, _, _, hw⟩ := open_int Tryd.underlying50 hv h
  obtain ⟨h0, h1⟩ := wf_u32 hw
  exact ⟨n.toNat, congrArg (Value.int .u32) (Int.toNat_of_nonneg h0).symm, (Int.toNat_lt h0).2 (Int.lt_of_le_of_lt h1 (by decide))⟩
end Go.Proofs.YtiadeafibfkmeaaDoor

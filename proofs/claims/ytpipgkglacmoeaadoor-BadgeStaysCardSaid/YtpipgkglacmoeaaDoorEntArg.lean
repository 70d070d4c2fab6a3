/- An entity as an argument, opened. -/
import Derived.Test.YtpipgkglacmoeaaDoorLawBStays
namespace Go.Proofs.YtpipgkglacmoeaaDoor
open Go.ChangeShapes Go.WideShapes Go.ChangeAt Go.RowKit Go.Deep
theorem entLeaves : leaves Tryd.prog 5 27 = some [.int .i64, .int .i64] := by kernel_rfl
set_option maxRecDepth 100000 in
theorem open_entity {H : Type} {enc : TypeId × Value → H} {W : World} {base : Nat} {spare : Nat → Bool} {held : Bool} {v : Value} {d : DataW H} {ps : List MemPlace} {r : Reach} {b0 : Nat}
    (hv : Value.okWide Tryd.prog W r b0 27 v) (h : DataW.Trod enc Tryd.prog W base spare held 27 v d ps) : ∃ x y : Int, v = .agg #[.int .i64 x, .int .i64 y] := by
  obtain ⟨cs, rfl, hsz⟩ := okWide_struct Tryd.underlying27 hv
  obtain ⟨fuel, hf⟩ := h
  have h4 := leaves_ok 5 _ _ _ _ _ entLeaves hf
  have key : ∀ l : List Value, AllOk Tryd.prog enc W base spare held [.int .i64, .int .i64] l → ∃ x y : Int, l = [.int .i64 x, .int .i64 y] := by
    intro l h4
    cases h4 with | cons a0 b0 => cases b0 with | cons a1 b1 => cases b1 with | nil =>
    obtain ⟨x0, rfl, _⟩ := a0
    obtain ⟨x1, rfl, _⟩ := a1
    exact ⟨x0, x1, rfl⟩
  obtain ⟨x, y, e⟩ := key _ h4
  refine ⟨x, y, ?_⟩
  congr 1
  apply Array.toList_inj.1
  exact e
end Go.Proofs.YtpipgkglacmoeaaDoor

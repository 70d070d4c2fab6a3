/- strconv.Itoa of a small number, to the digit. -/
import Derived.Test.YtnncbmbepdkfnaaDoorErr
namespace Go.Proofs.YtnncbmbepdkfnaaDoor
open Go.RowKit
def digS (i : Nat) : ByteArray := if i < 10 then ⟨#[(48 + i).toUInt8]⟩ else ⟨#[(48 + i / 10).toUInt8, (48 + i % 10).toUInt8]⟩
set_option maxRecDepth 100000 in
theorem small_calls {w : World} {i : Nat} (h : i < 100) : Calls Tryd.prog 70 #[.int .i64 i] w fun e w' => e = .returned (.string (digS i)) ∧ w = w' := by
  have h0 : (0 : Int) ≤ (i : Int) := by omega
  have h1 : (i : Int) < 100 := by omega
  by_cases h2 : (i : Int) < 10
  · have h2' : i < 10 := by omega
    go_enter Tryd.func70, Tryd.ntmps70
    go_wp2_with fail
    rw [run_slice_string (h := Tryd.underlying9)]
    · go_wp2_with fail
      go_ret
      refine ⟨ret_eq (congrArg Value.string ?_), rfl⟩
      refine (?_ : ∀ j : Fin 10, ByteArray.extract _ j.1 (j.1 + 1) = digS j.1) ⟨i, h2'⟩
      decide +kernel
    · omega
    · omega
    · exact Int.le_trans (b := ((36 : Nat) : Int)) (by omega) (Int.ofNat_le.2 (by decide))
  · have h2' : ¬ i < 10 := by omega
    go_enter Tryd.func70, Tryd.ntmps70
    go_wp2_with fail
    rw [run_slice_string (h := Tryd.underlying9)]
    · go_wp2_with fail
      go_ret
      refine ⟨ret_eq (congrArg Value.string ?_), rfl⟩
      refine (?_ : ∀ j : Fin 100, ¬ j.1 < 10 → ByteArray.extract _ (j.1 * 2) (j.1 * 2 + 2) = digS j.1) ⟨i, h⟩ h2'
      decide +kernel
    · omega
    · omega
    · exact Int.le_trans (b := ((200 : Nat) : Int)) (by omega) (Int.ofNat_le.2 (by decide))
theorem fmt_calls {w : World} {i : Nat} (h : i < 100) : Calls Tryd.prog 67 #[.int .i64 i, .int .i64 10] w fun e w' => e = .returned (.string (digS i)) ∧ w = w' := by
  have H := hide (small_calls (w := w) h)
  have h0 : (0 : Int) ≤ (i : Int) := by omega
  have h1 : (i : Int) < 100 := by omega
  go_enter Tryd.func67, Tryd.ntmps67
  go_wp2_with fail
  refine H.out.mono ?_
  rintro e w' ⟨rfl, rfl⟩
  go_wp2_with fail
  go_ret
  exact ⟨rfl, rfl⟩
theorem itoaI_calls {w : World} {i : Nat} (h : i < 100) : Calls Tryd.prog 62 #[.int .i64 i] w fun e w' => e = .returned (.string (digS i)) ∧ w = w' := by
  have H := hide (fmt_calls (w := w) h)
  go_enter Tryd.func62, Tryd.ntmps62
  go_wp2_with fail
  refine H.out.mono ?_
  rintro e w' ⟨rfl, rfl⟩
  go_wp2_with fail
  go_ret
  exact ⟨rfl, rfl⟩
theorem itoa_calls {w : World} {i : Nat} (h : i < 100) : Calls Tryd.prog 50 #[.int .i64 i] w fun e w' => e = .returned (.string (digS i)) ∧ w = w' := by
  have H := hide (itoaI_calls (w := w) h)
  go_enter Tryd.func50, Tryd.ntmps50
  go_wp2_with fail
  refine H.out.mono ?_
  rintro e w' ⟨rfl, rfl⟩
  go_wp2_with fail
  go_ret
  exact ⟨rfl, rfl⟩
end Go.Proofs.YtnncbmbepdkfnaaDoor

/- strconv.Itoa of a small number: some string, and nothing turns. -/
import Derived.Test.YthjakngpegdhmaaDoorErr
namespace Go.Proofs.YthjakngpegdhmaaDoor
open Go.RowKit
set_option maxRecDepth 100000 in
theorem small_calls {w : World} {i : Nat} (h : i < 100) : Calls Tryd.prog 40 #[.int .i64 i] w fun e w' => (∃ s, e = .returned (.string s)) ∧ w = w' := by
  have h0 : (0 : Int) ≤ (i : Int) := by omega
  have h1 : (i : Int) < 100 := by omega
  by_cases h2 : (i : Int) < 10
  · go_enter Tryd.func40, Tryd.ntmps40
    go_wp2_with fail
    rw [run_slice_string (h := Tryd.underlying9)]
    · go_wp2_with fail
      go_ret
      exact ⟨⟨_, rfl⟩, rfl⟩
    · omega
    · omega
    · exact Int.le_trans (b := ((36 : Nat) : Int)) (by omega) (Int.ofNat_le.2 (by decide))
  · go_enter Tryd.func40, Tryd.ntmps40
    go_wp2_with fail
    rw [run_slice_string (h := Tryd.underlying9)]
    · go_wp2_with fail
      go_ret
      exact ⟨⟨_, rfl⟩, rfl⟩
    · omega
    · omega
    · exact Int.le_trans (b := ((200 : Nat) : Int)) (by omega) (Int.ofNat_le.2 (by decide))
theorem fmt_calls {w : World} {i : Nat} (h : i < 100) : Calls Tryd.prog 39 #[.int .i64 i, .int .i64 10] w fun e w' => (∃ s, e = .returned (.string s)) ∧ w = w' := by
  have H := hide (small_calls (w := w) h)
  have h0 : (0 : Int) ≤ (i : Int) := by omega
  have h1 : (i : Int) < 100 := by omega
  go_enter Tryd.func39, Tryd.ntmps39
  go_wp2_with fail
  refine H.out.mono ?_
  rintro e w' ⟨⟨s, rfl⟩, rfl⟩
  go_wp2_with fail
  go_ret
  exact ⟨⟨_, rfl⟩, rfl⟩
theorem itoaI_calls {w : World} {i : Nat} (h : i < 100) : Calls Tryd.prog 37 #[.int .i64 i] w fun e w' => (∃ s, e = .returned (.string s)) ∧ w = w' := by
  have H := hide (fmt_calls (w := w) h)
  go_enter Tryd.func37, Tryd.ntmps37
  go_wp2_with fail
  refine H.out.mono ?_
  rintro e w' ⟨⟨s, rfl⟩, rfl⟩
  go_wp2_with fail
  go_ret
  exact ⟨⟨_, rfl⟩, rfl⟩
theorem itoa_calls {w : World} {i : Nat} (h : i < 100) : Calls Tryd.prog 33 #[.int .i64 i] w fun e w' => (∃ s, e = .returned (.string s)) ∧ w = w' := by
  have H := hide (itoaI_calls (w := w) h)
  go_enter Tryd.func33, Tryd.ntmps33
  go_wp2_with fail
  refine H.out.mono ?_
  rintro e w' ⟨⟨s, rfl⟩, rfl⟩
  go_wp2_with fail
  go_ret
  exact ⟨⟨_, rfl⟩, rfl⟩
end Go.Proofs.YthjakngpegdhmaaDoor

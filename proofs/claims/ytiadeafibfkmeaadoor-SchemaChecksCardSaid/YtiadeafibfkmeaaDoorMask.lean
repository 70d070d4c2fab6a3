/- Sets of components as numbers: bit, With, Without, Within of package schema by contracts. -/
import Derived.Test.YtiadeafibfkmeaaDoorRest
import Derived.Laws.BitsAllLaws
namespace Go.Proofs.YtiadeafibfkmeaaDoor
open Go.RowKit

/-! ### pure -/
def wth (m c : Nat) : Nat := m ||| 2 ^ c
def wout (m c : Nat) : Nat := m &&& (4294967295 - 2 ^ c)
theorem wth_bit (m c i : Nat) : (wth m c).testBit i = (m.testBit i || decide (c = i)) := by
  unfold wth; rw [Nat.testBit_or, Nat.testBit_two_pow]
theorem full_bit (x i : Nat) (hx : x < 4294967296) : (4294967295 - x).testBit i = (decide (i < 32) && !x.testBit i) := by
  have := Nat.testBit_two_pow_sub_succ (x := x) (n := 32) hx i
  rw [← this]
  congr 1
  omega
theorem pow_lt32 {c : Nat} (h : c < 32) : 2 ^ c < 4294967296 := by
  have := Nat.pow_lt_pow_right (a := 2) (by omega) h
  simpa using this
theorem bit_ge {m i : Nat} (hm : m < 4294967296) (hi : 32 ≤ i) : m.testBit i = false := Nat.testBit_lt_two_pow (Nat.lt_of_lt_of_le hm (by
  have := Nat.pow_le_pow_right (n := 2) (by omega) hi
  simpa using this))
theorem wout_bit (m c i : Nat) (hm : m < 4294967296) (hc : c < 32) : (wout m c).testBit i = (m.testBit i && decide (c ≠ i)) := by
  unfold wout
  rw [Nat.testBit_and, full_bit _ _ (pow_lt32 hc), Nat.testBit_two_pow]
  by_cases hi : i < 32
  · simp [hi]
  · simp [bit_ge hm (by omega : 32 ≤ i)]
theorem wth_lt {m c k : Nat} (hm : m < 2 ^ k) (hc : c < k) : wth m c < 2 ^ k := Nat.or_lt_two_pow hm (Nat.pow_lt_pow_right (by omega) hc)
theorem wout_le (m c : Nat) : wout m c ≤ m := Nat.and_le_left
theorem pow_le32 {k : Nat} (h : k ≤ 32) : 2 ^ k ≤ 4294967296 := by
  have := Nat.pow_le_pow_right (n := 2) (by omega) h
  simpa using this

/-! ### the functions -/
theorem bit_calls (c : Nat) (hc : c < 32) (w : World) : Calls Tryd.prog 48 #[.int .i64 c] w fun e w' => e = .returned (.int .u32 ((2 ^ c : Nat) : Int)) ∧ w = w' := by
  go_enter Tryd.func48, Tryd.ntmps48
  go_wp2_with fail
  go_ret
  refine ⟨ret_eq ?_, rfl⟩
  have h := pow_lt32 hc
  have e : ((2 : Int) ^ c % 4294967296) = ((2 ^ c : Nat) : Int) := by
    have e1 : ((2 : Int) ^ c) = ((2 ^ c : Nat) : Int) := by simp
    rw [e1]; exact Int.emod_eq_of_lt (Int.natCast_nonneg _) (Int.ofNat_lt.2 h)
  show Value.int .u32 (2 ^ c % 4294967296) = _
  rw [e]
theorem with_calls (m c : Nat) (hm : m < 4294967296) (hc : c < 32) (w : World) : Calls Tryd.prog 29 #[.int .u32 m, .int .i64 c] w fun e w' => e = .returned (.int .u32 (wth m c : Nat)) ∧ w = w' := by
  have h2 := pow_lt32 hc
  have H := hide (u32_or_nat m (2 ^ c) hm h2)
  have H2 := hide (bit_calls c hc w)
  go_enter Tryd.func29, Tryd.ntmps29
  go_wp2_with fail
  refine H2.out.mono ?_
  rintro e w' ⟨rfl, rfl⟩
  go_wp2_with fail
  go_ret
  exact ⟨ret_eq (congrArg (Value.int .u32) H.out), rfl⟩
theorem without_calls (m c : Nat) (hm : m < 4294967296) (hc : c < 32) (w : World) : Calls Tryd.prog 30 #[.int .u32 m, .int .i64 c] w fun e w' => e = .returned (.int .u32 (wout m c : Nat)) ∧ w = w' := by
  have h2 := pow_lt32 hc
  have H := hide (u32_andNot_nat m (2 ^ c) hm h2)
  have H2 := hide (bit_calls c hc w)
  go_enter Tryd.func30, Tryd.ntmps30
  go_wp2_with fail
  refine H2.out.mono ?_
  rintro e w' ⟨rfl, rfl⟩
  go_wp2_with fail
  go_ret
  exact ⟨ret_eq (congrArg (Value.int .u32) H.out), rfl⟩
theorem within_calls (m a : Nat) (hm : m < 4294967296) (ha : a < 4294967296) (w : World) : Calls Tryd.prog 28 #[.int .u32 m, .int .u32 a] w fun e w' => e = .returned (.bool (decide (m &&& (4294967295 - a) = 0))) ∧ w = w' := by
  have H := hide (u32_andNot_nat m a hm ha)
  go_enter Tryd.func28, Tryd.ntmps28
  go_wp2_with fail
  go_ret
  refine ⟨ret_eq ?_, rfl⟩
  show Value.bool (bits BinOp.andNot IntKind.u32 (m : Int) (a : Int) == 0) = _
  rw [H.out]
  congr 1
  rw [Bool.eq_iff_iff, beq_iff_eq, decide_eq_true_iff]
  omega
end Go.Proofs.YtiadeafibfkmeaaDoor

/- The reference's sets: Has, Count. -/
import Derived.Test.YtiadeafibfkmeaaDoorCount
namespace Go.Proofs.YtiadeafibfkmeaaDoor
open Go.RowKit
theorem hasN_in {m n : Nat} (hn : n < 32) : hasN m n = m.testBit n := by
  unfold hasN
  rw [bitN_in hn, Bool.eq_iff_iff, decide_eq_true_iff]
  constructor
  · intro h
    cases hb : m.testBit n with
    | true => rfl
    | false =>
      exfalso
      apply h
      apply Nat.eq_of_testBit_eq
      intro i
      rw [Nat.testBit_and, Nat.testBit_two_pow, Nat.zero_testBit]
      by_cases e : n = i
      · subst e; simp [hb]
      · simp [e]
  · intro h e
    have : (m &&& 2 ^ n).testBit n = true := by rw [Nat.testBit_and, Nat.testBit_two_pow_self, h]; rfl
    rw [e] at this
    simp at this
theorem hasN_out {m : Nat} {c : Int} (h : c < 0 ∨ 32 ≤ c) : hasN m c = false := by
  unfold hasN
  rw [bitN_out h]
  simp
set_option maxHeartbeats 1000000 in
theorem rhas_calls {w : World} (m : Nat) (hm : m < 4294967296) (c : Int) : Calls Tryd.prog 26 #[.int .u32 m, .int .i64 c] w fun e w' => e = .returned (.bool (hasN m c)) ∧ w = w' := by
  by_cases h0 : c < 0
  · rw [hasN_out (.inl h0)]
    have h0' : ¬ (0 : Int) ≤ c := by omega
    go_enter Tryd.func26, Tryd.ntmps26
    go_wp2_with fail
    go_ret
    exact ⟨ret_eq (bool_eq (by first | (simp; done) | (simp; omega))), rfl⟩
  · by_cases h1 : 32 ≤ c
    · rw [hasN_out (.inr h1)]
      have h0' : (0 : Int) ≤ c := by omega
      have h1' : ¬ c < (32 : Int) := by omega
      go_enter Tryd.func26, Tryd.ntmps26
      go_wp2_with fail
      go_ret
      exact ⟨ret_eq (bool_eq (by first | (simp; done) | (simp; omega))), rfl⟩
    · obtain ⟨n, rfl⟩ := Int.eq_ofNat_of_zero_le (a := c) (by omega)
      have hn : n < 32 := by omega
      rw [hasN_in hn]
      have h0' : (0 : Int) ≤ (n : Int) := by omega
      have h1' : (n : Int) < (32 : Int) := by omega
      go_enter Tryd.func26, Tryd.ntmps26
      go_wp2_with fail
      go_ret
      refine ⟨ret_eq (bool_eq ?_), rfl⟩
      have e : (m : Int) / 2 ^ n = ((m / 2 ^ n : Nat) : Int) := by simp
      rw [e, Int.tmod_eq_emod_of_nonneg (Int.natCast_nonneg _), Nat.testBit_eq_decide_div_mod_eq, Bool.eq_iff_iff, beq_iff_eq, decide_eq_true_iff]
      generalize m / 2 ^ n = q
      omega
theorem take_bits (m i : Nat) (hi : i < 32) : ((List.range (i + 1)).filter m.testBit).length = ((List.range i).filter m.testBit).length + (if m.testBit i = true then 1 else 0) := by
  rw [List.range_succ, List.filter_append, List.length_append]
  cases h : m.testBit i <;> simp [h]
set_option maxHeartbeats 1000000 in
theorem rcount_calls {w : World} (m : Nat) (hm : m < 4294967296) : Calls Tryd.prog 27 #[.int .u32 m] w fun e w' => e = .returned (.int .i64 ((bitsOf m).length : Nat)) ∧ w = w' := by
  have HM := hide hm
  clear hm
  go_enter Tryd.func27, Tryd.ntmps27
  go_wp2_with fail
  go_loopw [3, 4] (fun s3 s4 wr => w = wr ∧ ∃ i : Nat, i ≤ 32 ∧ s4 = .int .i64 i ∧ s3 = .int .i64 (((List.range i).filter m.testBit).length : Nat)) (fun _ s4 _ => 32 - (intOf s4).toNat)
  case atStart => exact ⟨rfl, 0, by omega, rfl, rfl⟩
  case round =>
    obtain ⟨rfl, i, hi, rfl, rfl⟩ := hrel
    have i0 : (0 : Int) ≤ (i : Int) := by omega
    by_cases hin : i < 32
    · have i1 : (i : Int) < 32 := by omega
      have HR := hide (rhas_calls (w := w) m HM.out (i : Int))
      rw [hasN_in hin] at HR
      have hs := take_bits m i hin
      have hle : ((List.range i).filter m.testBit).length ≤ i := by
        have := List.length_filter_le m.testBit (List.range i)
        simpa using this
      generalize ((List.range i).filter m.testBit).length = c at *
      cases hb : m.testBit i with
      | true =>
        rw [hb] at HR hs
        have Hs := hide hs
        clear hs hb
        go_wp2_with fail
        refine HR.out.mono ?_
        rintro e w' ⟨rfl, rfl⟩
        go_wp2_with fail
        go_roundw
        case rel => exact ⟨trivial, i + 1, by omega, by go_num, by rw [Hs.out]; go_num⟩
        case measure => simp [intOf]; omega
      | false =>
        rw [hb] at HR hs
        have Hs := hide hs
        clear hs hb
        go_wp2_with fail
        refine HR.out.mono ?_
        rintro e w' ⟨rfl, rfl⟩
        go_wp2_with fail
        go_roundw
        case rel => exact ⟨trivial, i + 1, by omega, by go_num, by rw [Hs.out]; simp⟩
        case measure => simp [intOf]; omega
    · obtain rfl : i = 32 := by omega
      go_wp2_with fail
      go_ret
      exact ⟨rfl, rfl⟩
end Go.Proofs.YtiadeafibfkmeaaDoor

/- schema.Count: the members of a set. -/
import Derived.Test.YtiadeafibfkmeaaDoorMaskA
import Derived.Test.YtiadeafibfkmeaaDoorBits
namespace Go.Proofs.YtiadeafibfkmeaaDoor
open Go.RowKit
def pc8 (k : Nat) : Nat := ((List.range 8).filter k.testBit).length
theorem pc8_le (k : Nat) : pc8 k ≤ 8 := by
  unfold pc8
  have := List.length_filter_le k.testBit (List.range 8)
  simpa using this
theorem get_nat (L : ByteArray) (k : Nat) (h : k < L.size) : (L[k]'h).toNat = (L.data.toList.map UInt8.toNat).getD k 0 := by
  have h' : k < L.data.size := h
  rw [List.getD_eq_getElem?_getD, List.getElem?_map, Array.getElem?_toList, Array.getElem?_eq_getElem h']
  rfl
theorem byte_bit (m s i : Nat) (hi : i < 8) : (m / 2 ^ s &&& 255).testBit i = m.testBit (s + i) := by
  rw [Nat.testBit_and, ← Nat.shiftRight_eq_div_pow, Nat.testBit_shiftRight]
  have : (255 : Nat).testBit i = true := by
    revert hi; revert i; decide
  rw [this, Bool.and_true]
theorem oct_len (m s : Nat) : (((List.range 8).map (s + ·)).filter m.testBit).length = pc8 (m / 2 ^ s &&& 255) := by
  unfold pc8
  rw [List.filter_map, List.length_map]
  congr 1
  refine List.filter_congr fun i hi => ?_
  have : i < 8 := List.mem_range.1 hi
  rw [byte_bit m s i this]; rfl
theorem pc_sum (m : Nat) : (bitsOf m).length = pc8 (m / 16777216 &&& 255) + pc8 (m / 65536 &&& 255) + pc8 (m / 256 &&& 255) + pc8 (m &&& 255) := by
  unfold bitsOf
  rw [show List.range 32 = (List.range 8).map (0 + ·) ++ ((List.range 8).map (8 + ·) ++ ((List.range 8).map (16 + ·) ++ (List.range 8).map (24 + ·))) by decide]
  rw [List.filter_append, List.filter_append, List.filter_append, List.length_append, List.length_append, List.length_append, oct_len, oct_len, oct_len, oct_len]
  rw [show (2 : Nat) ^ 24 = 16777216 from rfl, show (2 : Nat) ^ 16 = 65536 from rfl, show (2 : Nat) ^ 8 = 256 from rfl, Nat.pow_zero, Nat.div_one]
  omega
theorem top_and {m : Nat} (hm : m < 4294967296) : m / 16777216 &&& 255 = m / 16777216 := by
  apply Nat.eq_of_testBit_eq
  intro i
  rw [Nat.testBit_and]
  rcases Nat.lt_or_ge i 8 with h | h
  · have : (255 : Nat).testBit i = true := by
      revert h; revert i; decide
    rw [this, Bool.and_true]
  · have : (m / 16777216).testBit i = false := Nat.testBit_lt_two_pow (Nat.lt_of_lt_of_le (show m / 16777216 < 2 ^ 8 by omega) (Nat.pow_le_pow_right (by omega) h))
    rw [this, Bool.false_and]
set_option maxRecDepth 100000 in
set_option maxHeartbeats 4000000 in
theorem ones_calls {w : World} (m : Nat) (hm : m < 4294967296) : Calls Tryd.prog 47 #[.int .u32 m] w fun e w' => e = .returned (.int .i64 ((bitsOf m).length : Nat)) ∧ Fr [] w w' := by
  have h1 := u32_and_nat (m / 65536) 255 (by omega) (by omega)
  have h2 := u32_and_nat (m / 256) 255 (by omega) (by omega)
  have h3 := u32_and_nat m 255 (by omega) (by omega)
  have b1 : m / 65536 &&& 255 < 256 := Nat.lt_of_le_of_lt Nat.and_le_right (by omega)
  have b2 : m / 256 &&& 255 < 256 := Nat.lt_of_le_of_lt Nat.and_le_right (by omega)
  have b3 : m &&& 255 < 256 := Nat.lt_of_le_of_lt Nat.and_le_right (by omega)
  obtain ⟨k1, hk1⟩ : ∃ k, k = m / 65536 &&& 255 := ⟨_, rfl⟩
  obtain ⟨k2, hk2⟩ : ∃ k, k = m / 256 &&& 255 := ⟨_, rfl⟩
  obtain ⟨k3, hk3⟩ : ∃ k, k = m &&& 255 := ⟨_, rfl⟩
  obtain ⟨k0, hk0⟩ : ∃ k, k = m / 16777216 := ⟨_, rfl⟩
  rw [← hk1] at h1 b1
  rw [← hk2] at h2 b2
  rw [← hk3] at h3 b3
  have e0 : (m : Int) / 16777216 = (k0 : Int) := by rw [hk0]; omega
  have e1 : (m : Int) / 65536 = ((m / 65536 : Nat) : Int) := by omega
  have e2 : (m : Int) / 256 = ((m / 256 : Nat) : Int) := by omega
  have b0 : k0 < 256 := by omega
  have f1 : bits BinOp.and IntKind.u32 ((m : Int) / 65536) 255 = (k1 : Int) := by rw [e1]; exact h1
  have f2 : bits BinOp.and IntKind.u32 ((m : Int) / 256) 255 = (k2 : Int) := by rw [e2]; exact h2
  have f3 : bits BinOp.and IntKind.u32 (m : Int) 255 = (k3 : Int) := h3
  have hm' : Hid (bitsOf m = bitsOf m) := hide rfl
  have HK := hide (And.intro hk0 (And.intro hk1 (And.intro hk2 hk3)))
  have c0 : 0 ≤ (k0 : Int) ∧ (k0 : Int) < 256 := by omega
  have c1 : 0 ≤ (k1 : Int) ∧ (k1 : Int) < 256 := by omega
  have c2 : 0 ≤ (k2 : Int) ∧ (k2 : Int) < 256 := by omega
  have c3 : 0 ≤ (k3 : Int) ∧ (k3 : Int) < 256 := by omega
  clear h1 h2 h3 e1 e2 hk0 hk1 hk2 hk3
  go_enter Tryd.func47, Tryd.ntmps47
  go_wp2_with fail
  go_quiet (fail)
  go_wp2_with fail
  go_ret
  refine ⟨ret_eq (int_eq ?_), (Fr.refl _ _).drewN _⟩
  rw [get_nat, get_nat, get_nat, get_nat]
  generalize hT : List.map UInt8.toNat _ = T
  have hp : ∀ k : Fin 256, T.getD k.1 0 = pc8 k.1 := by
    rw [← hT]
    decide +kernel
  rw [hp ⟨k0, b0⟩, hp ⟨k1, b1⟩, hp ⟨k2, b2⟩, hp ⟨k3, b3⟩, pc_sum m, top_and hm, ← HK.out.1, ← HK.out.2.1, ← HK.out.2.2.1, ← HK.out.2.2.2]
  have q0 := pc8_le k0
  have q1 := pc8_le k1
  have q2 := pc8_le k2
  have q3 := pc8_le k3
  dsimp only
  omega
set_option maxHeartbeats 1000000 in
theorem count_calls {w : World} (m : Nat) (hm : m < 4294967296) : Calls Tryd.prog 24 #[.int .u32 m] w fun e w' => e = .returned (.int .i64 ((bitsOf m).length : Nat)) ∧ Fr [] w w' := by
  have H := hide (ones_calls (w := w) m hm)
  clear hm
  go_enter Tryd.func24, Tryd.ntmps24
  go_wp2_with fail
  refine H.out.mono ?_
  rintro e w' ⟨rfl, hf⟩
  have Hf := hide hf
  clear hf
  go_wp2_with fail
  go_ret
  exact ⟨rfl, Hf.out⟩
end Go.Proofs.YtiadeafibfkmeaaDoor

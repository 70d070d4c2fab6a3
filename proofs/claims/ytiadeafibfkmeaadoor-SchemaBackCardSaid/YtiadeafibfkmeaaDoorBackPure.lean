/- SchemaBack, the plain side: sets of numbers by their members. -/
import Derived.Test.YtiadeafibfkmeaaDoorRefSets
import Derived.Test.YtiadeafibfkmeaaDoorBits
namespace Go.Proofs.YtiadeafibfkmeaaDoor
open Go.RowKit
theorem bitN_bit (c : Int) (k : Nat) : (bitN c).testBit k = decide (k < 32 ∧ c = k) := by
  unfold bitN
  split
  · rename_i h
    rw [Nat.testBit_two_pow]
    by_cases hk : c = k
    · subst hk
      simp
      omega
    · have : c.toNat ≠ k := by omega
      simp [this, hk]
  · rename_i h
    have : ¬ (k < 32 ∧ c = k) := by omega
    simp [this]
theorem fold_bit (k : Nat) : ∀ (l : List Int) (m : Nat), (l.foldl (fun m c => m ||| bitN c) m).testBit k = (m.testBit k || decide (k < 32 ∧ (k : Int) ∈ l)) := by
  intro l
  induction l with
  | nil => intro m; simp
  | cons a l ih =>
    intro m
    rw [List.foldl_cons, ih, Nat.testBit_or, bitN_bit, Bool.or_assoc]
    congr 1
    rw [Bool.eq_iff_iff, Bool.or_eq_true, decide_eq_true_iff, decide_eq_true_iff, decide_eq_true_iff, List.mem_cons]
    constructor
    · rintro (⟨h1, h2⟩ | ⟨h1, h2⟩)
      · exact ⟨h1, .inl h2.symm⟩
      · exact ⟨h1, .inr h2⟩
    · rintro ⟨h1, h2 | h2⟩
      · exact .inl ⟨h1, h2.symm⟩
      · exact .inr ⟨h1, h2⟩
theorem setN_bit (l : List Int) (k : Nat) : (setN l).testBit k = decide (k < 32 ∧ (k : Int) ∈ l) := by
  unfold setN
  rw [fold_bit, Nat.zero_testBit, Bool.false_or]
theorem setN_ext {l l' : List Int} (h : ∀ x, x ∈ l ↔ x ∈ l') : setN l = setN l' := by
  apply Nat.eq_of_testBit_eq
  intro k
  rw [setN_bit, setN_bit, Bool.eq_iff_iff, decide_eq_true_iff, decide_eq_true_iff, h]
theorem setN_app (l : List Int) (x : Int) : setN (l ++ [x]) = setN l ||| bitN x := by
  unfold setN; rw [List.foldl_append]; rfl
theorem mem_bitsOf {m k : Nat} (hm : m < 4294967296) : k ∈ bitsOf m ↔ m.testBit k = true := by
  unfold bitsOf
  rw [List.mem_filter, List.mem_range]
  constructor
  · exact fun h => h.2
  · intro h
    refine ⟨?_, h⟩
    rcases Nat.lt_or_ge k 32 with h1 | h1
    · exact h1
    · rw [bit_ge hm h1] at h; cases h
theorem setN_bits {m : Nat} (hm : m < 4294967296) : setN ((bitsOf m).map fun n : Nat => (n : Int)) = m := by
  apply Nat.eq_of_testBit_eq
  intro k
  rw [setN_bit]
  have : (k : Int) ∈ ((bitsOf m).map fun n : Nat => (n : Int)) ↔ k ∈ bitsOf m := by
    rw [List.mem_map]
    constructor
    · rintro ⟨a, h1, h2⟩
      have : a = k := by omega
      exact this ▸ h1
    · exact fun h => ⟨k, h, rfl⟩
  rw [Bool.eq_iff_iff, decide_eq_true_iff, this, mem_bitsOf hm]
  constructor
  · exact fun h => h.2
  · intro h
    refine ⟨?_, h⟩
    rcases Nat.lt_or_ge k 32 with h1 | h1
    · exact h1
    · rw [bit_ge hm h1] at h; cases h
theorem hasN_set {l : List Int} {x : Int} (h : x ∈ l) : hasN (setN l) x = (decide (0 ≤ x) && decide (x < 32)) := by
  by_cases h0 : 0 ≤ x
  · obtain ⟨k, rfl⟩ := Int.eq_ofNat_of_zero_le h0
    by_cases h1 : k < 32
    · rw [hasN_in h1, setN_bit]
      simp [h1, h]
      omega
    · rw [hasN_out (by omega)]
      have : ¬ (k : Int) < 32 := by omega
      simp [this]
  · rw [hasN_out (by omega)]
    simp [h0]
theorem hasN_bits {m i n : Nat} (hm : m < 4294967296) (h : (bitsOf m)[i]? = some n) : hasN m n = true := by
  have hn : n ∈ bitsOf m := List.mem_of_getElem? h
  have h1 := (mem_bitsOf hm).1 hn
  have h2 : n < 32 := by
    rcases Nat.lt_or_ge n 32 with h3 | h3
    · exact h3
    · rw [bit_ge hm h3] at h1; cases h1
  rw [hasN_in h2, h1]
theorem bits_rise {m i a b : Nat} (ha : (bitsOf m)[i]? = some a) (hb : (bitsOf m)[i + 1]? = some b) : a < b := by
  have hp : (bitsOf m).Pairwise (· < ·) := List.Pairwise.filter _ List.pairwise_lt_range
  rw [List.pairwise_iff_getElem] at hp
  obtain ⟨h1, rfl⟩ := List.getElem?_eq_some_iff.1 ha
  obtain ⟨h2, rfl⟩ := List.getElem?_eq_some_iff.1 hb
  exact hp i (i + 1) h1 h2 (by omega)
/-- each number twice -/
def dup (l : List Int) : List Int := l.flatMap fun x => [x, x]
theorem dup_app (l : List Int) (x : Int) : dup (l ++ [x]) = dup l ++ [x, x] := by simp [dup]
theorem dup_len (l : List Int) : (dup l).length = 2 * l.length := by
  induction l with
  | nil => rfl
  | cons x l ih => rw [show dup (x :: l) = x :: x :: dup l from rfl]; simp [ih]; omega
theorem mem_dup (l : List Int) (x : Int) : x ∈ dup l ↔ x ∈ l := by
  unfold dup
  rw [List.mem_flatMap]
  constructor
  · rintro ⟨a, h1, h2⟩
    simp at h2
    exact h2 ▸ h1
  · exact fun h => ⟨x, h, by simp⟩
theorem drop_rev {l : List Int} {j : Nat} {x : Int} (h : l[j]? = some x) : (l.drop j).reverse = (l.drop (j + 1)).reverse ++ [x] := by
  obtain ⟨h1, rfl⟩ := List.getElem?_eq_some_iff.1 h
  rw [List.drop_eq_getElem_cons h1, List.reverse_cons]
theorem ints_flat (l : List Int) : ints l = l.flatMap encN := by
  unfold ints encN
  rw [flat_one]
end Go.Proofs.YtiadeafibfkmeaaDoor

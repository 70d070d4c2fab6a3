/- Small words that came later: uint(n) % m; lists. -/
import Derived.Test.YtghffjlgiclieaaDoorErr
namespace Go.Proofs.YtghffjlgiclieaaDoor
open Go.RowKit

theorem umod (n : Int) (m : Nat) (hm : 0 < m) (hm' : m ≤ 4611686018427387904) : ∃ k : Nat, wrap64 ((IntKind.u64.wrap n).tmod m) = k ∧ k < m := by
  have h0 : 0 ≤ IntKind.u64.wrap n := by
    rw [IntKind.wrap_u64]
    omega
  obtain ⟨u, hu⟩ := Int.eq_ofNat_of_zero_le h0
  rw [hu]
  have h1 : (u : Int).tmod m = ((u % m : Nat) : Int) := by
    rw [Int.tmod_eq_emod_of_nonneg (by omega)]
    rfl
  have h2 : u % m < m := Nat.mod_lt _ hm
  refine ⟨u % m, ?_, h2⟩
  rw [h1]
  unfold wrap64
  omega
theorem u64_nat (n : Int) : ∃ u : Nat, IntKind.u64.wrap n = u ∧ u < 18446744073709551616 := by
  have h0 : 0 ≤ IntKind.u64.wrap n ∧ IntKind.u64.wrap n < 18446744073709551616 := by
    rw [IntKind.wrap_u64]
    omega
  obtain ⟨u, hu⟩ := Int.eq_ofNat_of_zero_le h0.1
  exact ⟨u, hu, by omega⟩
theorem Cx.none {K : List Nat} {B : Nat} {ad : Nat → Addr} {w0 w : World} {S : List Nat} {L : List (Nat × TypeId × Array Value)} (h : Cx K B ad w0 w S L) : Cx K B ad w0 w S [] :=
  ⟨h.sents, by simp, h.lt, h.fr, h.new, h.le⟩
end Go.Proofs.YtghffjlgiclieaaDoor

/- The reference of layer 1: blamed, Known, Leaves, Least; same. -/
import Derived.Test.YtmjdnmpiheaidaaDoorSmall
namespace Go.Proofs.YtmjdnmpiheaidaaDoor
open Go.RowKit
theorem Reads.cut {α : Type} {f : α → List Value} {w : World} {B size n : Nat} {A : Option Addr} {l : List α} (h : Reads w B size A n (l.flatMap f)) (hf : ∀ x, (f x).length = size) (hl : l.length = n) {k : Nat} (hk : k ≤ n) : Reads w B size A k ((l.take k).flatMap f) := by
  refine ⟨by rw [flat_len hf, List.length_take, hl, Nat.min_eq_left hk], fun hk0 => ?_⟩
  obtain ⟨b, off, e, hb, hc⟩ := h.2 (by omega)
  refine ⟨b, off, e, hb, fun j u hu => hc j u ?_⟩
  rw [← flat_take hf] at hu
  rw [List.getElem?_take] at hu
  split at hu
  · exact hu
  · cases hu
def anyB (l : List Tw) : Bool := !(whs l).isEmpty
theorem anyB_snoc {l : List Tw} {i : Nat} {t : Tw} (ht : l[i]? = some t) (hk : t.kind ≠ 1) : whs (l.take (i + 1)) = whs (l.take i) := by
  rw [List.take_add_one, ht]
  unfold whs
  rw [List.filter_append]
  simp [hk]
theorem whs_snoc {l : List Tw} {i : Nat} {t : Tw} (ht : l[i]? = some t) (hk : t.kind = 1) : whs (l.take (i + 1)) = whs (l.take i) ++ [t.whr] := by
  rw [List.take_add_one, ht]
  unfold whs
  rw [List.filter_append, List.map_append]
  simp [hk]
theorem whs_mono {l : List Tw} {i : Nat} (h : whs (l.take i) ≠ []) (n : Nat) (hn : i ≤ n) : whs (l.take n) ≠ [] := by
  have : l.take n = l.take i ++ (l.take n).drop i := by
    have := List.take_append_drop i (l.take n)
    rw [List.take_take, Nat.min_eq_left hn] at this
    exact this.symm
  rw [this]
  unfold whs at h ⊢
  rw [List.filter_append, List.map_append]
  intro h2
  exact h (List.append_eq_nil_iff.mp h2).1
set_option maxHeartbeats 1000000 in
theorem blamed_calls {w : World} {A : Option Addr} {n c : Nat} {l : List Tw} (hr : Reads w w.heap.size 3 A n (l.flatMap encT)) (hl : l.length = n) (hn : n ≤ 100) :
    Calls Tryd.prog 28 #[.slice A n c] w fun e w' => e = .returned (.bool (anyB l)) ∧ w = w' := by
  have HR := hide (And.intro hr hl)
  clear hr hl
  go_enter Tryd.func28, Tryd.ntmps28
  go_wp2_with fail
  go_loopw [3] (fun s3 wr => w = wr ∧ ∃ i : Nat, i ≤ n ∧ s3 = .int .i64 i ∧ whs (l.take i) = []) (fun s3 _ => n - (intOf s3).toNat)
  case atStart => exact ⟨rfl, 0, by omega, rfl, by simp [whs]⟩
  case round =>
    obtain ⟨rfl, i, hi, rfl, hno⟩ := hrel
    have i0 : (0 : Int) ≤ (i : Int) := by omega
    have Hno := hide hno
    clear hno
    by_cases hin : i < n
    · have i1 : (i : Int) < (n : Int) := by omega
      obtain ⟨x, hx⟩ : ∃ x, l[i]? = some x := ⟨l[i]'(by have := HR.out.2; omega), by simp⟩
      obtain ⟨b, off, rfl, hb, hcl⟩ := HR.out.1.at_ encT_len hx HR.out.2
      have a0 := hcl 0 (.int .i64 x.kind) rfl
      rw [Nat.add_zero] at a0
      have Hx := hide hx
      clear hcl hx
      by_cases hk : x.kind = 1
      · rw [hk] at a0
        have Hk := hide hk
        clear hk
        go_wp2_with fail
        go_ret
        refine ⟨ret_eq (bool_eq ?_), rfl⟩
        have h1 := whs_mono (l := l) (i := i + 1) (by rw [whs_snoc Hx.out Hk.out]; simp) n (by omega)
        rw [List.take_of_length_le (by rw [HR.out.2]; omega)] at h1
        unfold anyB
        cases hw : whs l with
        | nil => exact absurd hw h1
        | cons a r => rfl
      · have Hk := hide hk
        go_wp2_with fail
        go_roundw
        case rel => exact ⟨trivial, i + 1, by omega, by go_num, by rw [anyB_snoc Hx.out Hk.out, Hno.out]⟩
        case measure => simp [intOf]; omega
    · obtain rfl : n = i := by omega
      go_wp2_with fail
      go_ret
      refine ⟨ret_eq (bool_eq ?_), rfl⟩
      have := Hno.out
      rw [List.take_of_length_le (by rw [HR.out.2]; omega)] at this
      unfold anyB
      rw [this]; rfl
set_option maxHeartbeats 1000000 in
theorem known_calls {w : World} (n : Int) : Calls Tryd.prog 29 #[.int .i64 n] w fun e w' => e = .returned (.bool (decide (1 ≤ n ∧ n ≤ 18))) ∧ w = w' := by
  by_cases h1 : 1 ≤ n
  · by_cases h2 : n ≤ 18
    · rw [decide_eq_true ⟨h1, h2⟩]
      go_enter Tryd.func29, Tryd.ntmps29
      go_wp2_with fail
      go_ret
      exact ⟨ret_eq (bool_eq (by simp [h2])), rfl⟩
    · rw [decide_eq_false (by omega)]
      go_enter Tryd.func29, Tryd.ntmps29
      go_wp2_with fail
      go_ret
      exact ⟨ret_eq (bool_eq (by simp [h2])), rfl⟩
  · rw [decide_eq_false (by omega)]
    go_enter Tryd.func29, Tryd.ntmps29
    go_wp2_with fail
    go_ret
    exact ⟨ret_eq (bool_eq (by simp [h1])), rfl⟩
def leastN : List Ch → Nat := fun cs => cs.foldl (fun n c => if n = 0 ∨ c.2 < n then c.2 else n) 0
end Go.Proofs.YtmjdnmpiheaidaaDoor

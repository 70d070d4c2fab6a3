/- slices.Reverse at a row of ints that the caller owns. -/
import Derived.Test.YtghffjlgiclieaaDoorLib
import Derived.Test.YtghffjlgiclieaaDoorProg
import Derived.Deep.RegionLaw
namespace Go.Proofs.YtghffjlgiclieaaDoor
open Go.RowKit

/-! ### the outer i on both sides turned round -/
def revTo {α : Type} (i : Nat) (xs : List α) : List α := List.ofFn fun k : Fin xs.length => if k.1 < i ∨ xs.length - i ≤ k.1 then xs[xs.length - 1 - k.1]'(by omega) else xs[k.1]
theorem revTo_len {α : Type} (i : Nat) (xs : List α) : (revTo i xs).length = xs.length := by simp [revTo]
theorem revTo_get {α : Type} (i : Nat) (xs : List α) (k : Nat) (hk : k < xs.length) : (revTo i xs)[k]? = if k < i ∨ xs.length - i ≤ k then xs[xs.length - 1 - k]? else xs[k]? := by
  unfold revTo
  rw [List.getElem?_ofFn]
  simp only [hk, dite_true]
  split
  · rw [List.getElem?_eq_getElem (by omega)]
  · rw [List.getElem?_eq_getElem hk]
theorem revTo_zero {α : Type} (xs : List α) : revTo 0 xs = xs := by
  apply List.ext_getElem?
  intro k
  by_cases hk : k < xs.length
  · rw [revTo_get 0 xs k hk, if_neg (by omega)]
  · rw [List.getElem?_eq_none (by rw [revTo_len]; omega), List.getElem?_eq_none (by omega)]
theorem revTo_end {α : Type} (xs : List α) (i : Nat) (h : xs.length ≤ 2 * i + 1) : revTo i xs = xs.reverse := by
  apply List.ext_getElem?
  intro k
  by_cases hk : k < xs.length
  · rw [revTo_get i xs k hk, List.getElem?_reverse hk]
    split
    · rfl
    · congr 1; omega
  · rw [List.getElem?_eq_none (by rw [revTo_len]; omega), List.getElem?_eq_none (by simp; omega)]
theorem revTo_step {α : Type} (xs : List α) (i : Nat) (h : 2 * i + 1 < xs.length) {a b : α} (ha : xs[i]? = some a) (hb : xs[xs.length - 1 - i]? = some b) :
    ((revTo i xs).set i b).set (xs.length - 1 - i) a = revTo (i + 1) xs := by
  apply List.ext_getElem?
  intro k
  by_cases hk : k < xs.length
  · rw [revTo_get (i + 1) xs k hk, List.getElem?_set, List.getElem?_set]
    simp only [List.length_set, revTo_len]
    by_cases h1 : xs.length - 1 - i = k
    · subst h1
      simp only [if_true]
      rw [if_pos (by omega), if_pos (by omega), ← ha]
      congr 1; omega
    · rw [if_neg h1]
      by_cases h2 : i = k
      · subst h2
        simp only [if_true]
        rw [if_pos (by omega), if_pos (by omega), ← hb]
      · rw [if_neg h2, revTo_get i xs k hk]
        by_cases h3 : k < i ∨ xs.length - i ≤ k
        · rw [if_pos h3, if_pos (by omega)]
        · rw [if_neg h3, if_neg (by omega)]
  · rw [List.getElem?_eq_none (by simp [revTo_len]; omega), List.getElem?_eq_none (by rw [revTo_len]; omega)]

theorem map_get {zs : List Int} {k : Nat} (hk : k < zs.length) : (zs.map (Value.int .i64))[k]? = some (.int .i64 zs[k]) := by simp [hk]

set_option maxHeartbeats 2000000 in
theorem reverse_row {B : Nat} {w : World} {g cap : Nat} {zs : List Int} (h : w.ownsRow B 3 1 (.slice (some ⟨g, 0, none⟩) zs.length cap) zs.length (zs.map (Value.int .i64))) (hn : zs.length ≤ 1000000) :
    Calls Tryd.prog 23 #[.slice (some ⟨g, 0, none⟩) zs.length cap] w fun e w' => e = .returned (.tuple #[]) ∧ w'.ownsRow B 3 1 (.slice (some ⟨g, 0, none⟩) zs.length cap) zs.length (zs.reverse.map (Value.int .i64)) ∧ Fr [g] w w' := by
  have H := hide h
  clear h
  go_enter Tryd.func23, Tryd.ntmps23
  go_wp2_with fail
  go_loopw [2, 3] (fun s2 s3 wr => ∃ k : Nat, k ≤ zs.length ∧ s2 = .int .i64 k ∧ s3 = .int .i64 ((zs.length : Int) - 1 - k) ∧ wr.ownsRow B 3 1 (.slice (some ⟨g, 0, none⟩) zs.length cap) zs.length ((revTo k zs).map (Value.int .i64)) ∧ Fr [g] w wr) (fun s2 s3 _ => (intOf s3 - intOf s2 + 1).toNat)
  case atStart => exact ⟨0, by omega, rfl, by simp, by rw [revTo_zero]; exact H.out, Fr.refl _ _⟩
  case round =>
    obtain ⟨k, hk, rfl, rfl, hr, hf⟩ := hrel
    by_cases hlt : 2 * k + 1 < zs.length
    · obtain ⟨j, hj⟩ : ∃ j : Nat, j = zs.length - 1 - k := ⟨_, rfl⟩
      have hj1 : (zs.length : Int) - 1 - k = (j : Int) := by omega
      have hk1 : k < zs.length := by omega
      have hj2 : j < zs.length := by omega
      have e1 : (revTo k zs)[k]? = some zs[k] := by rw [revTo_get k zs k hk1, if_neg (by omega), List.getElem?_eq_getElem]
      have e2 : (revTo k zs)[j]? = some zs[j] := by rw [revTo_get k zs j hj2, if_neg (by omega), List.getElem?_eq_getElem]
      have ci := row_cell hr (i := k) (u := .int .i64 zs[k]) (by rw [List.getElem?_map, e1]; rfl)
      have cj := row_cell hr (i := j) (u := .int .i64 zs[j]) (by rw [List.getElem?_map, e2]; rfl)
      obtain ⟨cur, bg, _, _, _, hsz, _⟩ := row_blk hr
      have fg := bg.frozen
      have n1 : k ≠ j := by omega
      have n2 := n1.symm
      have hst := row_store (row_store hr k (by omega) (.int .i64 zs[j])) j (by omega) (.int .i64 zs[k])
      have hst' := revTo_step zs k hlt (a := zs[k]) (b := zs[j]) (by simp [hk1]) (by rw [← hj]; simp [hj2])
      rw [← hj] at hst'
      rw [← List.map_set, ← List.map_set, hst'] at hst
      rw [hj1]
      have Hst := hide (And.intro hst hf)
      have lij : (k : Int) < (j : Int) := by omega
      have k0 : (0 : Int) ≤ (k : Int) := by omega
      have k2 : (k : Int) < (zs.length : Int) := by omega
      have j0 : (0 : Int) ≤ (j : Int) := by omega
      have j2 : (j : Int) < (zs.length : Int) := by omega
      have hjk : j + k + 1 = zs.length := by omega
      have Hj := hide (And.intro hj (And.intro hj1 hjk))
      clear hr bg hsz hst hst' hj hj1 hf e1 e2 hjk
      generalize hx : zs[k] = x at *
      generalize hy : zs[j] = y at *
      clear hx hy
      go_wp2_with fail
      go_region_law (fail)
      all_goals
        go_wp2
        go_roundw
        case rel => exact ⟨k + 1, by have := Hj.out.2.2; omega, by go_num, int_eq (by have := Hj.out.2.2; omega), Hst.out.1.drew, ((Hst.out.2.setCell (p := ⟨g, k, none⟩) (by simp) _).setCell (p := ⟨g, j, none⟩) (by simp) _).drew⟩
        case measure => have := Hj.out.2.2; simp [intOf]; omega
    · go_wp2_with fail
      go_end0
      refine ⟨rfl, ?_, hf⟩
      rw [← revTo_end zs k (by omega)]
      exact hr

theorem reverse_nil (w : World) : Calls Tryd.prog 23 #[.slice none 0 0] w fun e w' => e = .returned (.tuple #[]) ∧ w = w' := by
  go_enter Tryd.func23, Tryd.ntmps23
  go_wp2_with fail
  go_loopw [2, 3] (fun s2 s3 wr => s2 = .int .i64 0 ∧ s3 = .int .i64 (-1) ∧ w = wr) (fun _ _ _ => 0)
  case atStart => exact ⟨rfl, rfl, rfl⟩
  case round =>
    obtain ⟨rfl, rfl, rfl⟩ := hrel
    go_wp2_with fail
    go_end0
    exact ⟨rfl, rfl⟩
end Go.Proofs.YtghffjlgiclieaaDoor

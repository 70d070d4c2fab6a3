/- BlameTells: the walk of the law. -/
import Derived.Test.YtmjdnmpiheaidaaDoorRefL2
namespace Go.Proofs.YtmjdnmpiheaidaaDoor
open Go.RowKit
theorem rleaf_row {w : World} {B n : Nat} {v : Value} {ls : List Lf} (h : w.ownsRow B 36 2 v n (ls.flatMap encL)) : ∃ A c, v = .slice A n c := by
  rcases row_form h with ⟨rfl, h0, _⟩ | ⟨g, cap, rfl, _⟩
  · exact ⟨none, 0, by rw [h0]⟩
  · exact ⟨_, _, rfl⟩
theorem rleaf_cells {w : World} {B n c : Nat} {A : Option Addr} {ls : List Lf} (h : w.ownsRow B 36 2 (.slice A n c) n (ls.flatMap encL)) {i : Nat} {x : Lf} (hx : ls[i]? = some x) (hi : i < n) :
    ∃ g, A = some ⟨g, 0, none⟩ ∧ g < w.heap.size ∧ w.cell? ⟨g, i * 2, none⟩ = some (.string x.1) ∧ w.cell? ⟨g, i * 2 + 1, none⟩ = some (.int .i64 x.2) := by
  rcases row_form h with ⟨_, h0, _⟩ | ⟨g, cap, e, _, hl, _⟩
  · omega
  · injection e with e1 e2 e3
    subst e1; subst e3
    exact ⟨g, rfl, hl, row_cell h (i := i * 2 + 0) (by rw [flat_get encL_len hx 0 (by omega)]; rfl), row_cell h (i := i * 2 + 1) (by rw [flat_get encL_len hx 1 (by omega)]; rfl)⟩
def Nums18 (cs : List Ch) : Prop := ∀ c ∈ cs, 1 ≤ c.2 ∧ c.2 ≤ 18
theorem allC_nums (l : List Rw) : Nums18 (allC l) := by
  intro c hc
  obtain ⟨x, -, hc⟩ := List.mem_flatMap.mp hc
  unfold growC at hc
  split at hc
  · cases hc
  · split at hc
    · rename_i h
      rw [List.mem_singleton] at hc
      subst hc
      dsimp only
      omega
    · cases hc
theorem nums_snoc {cs : List Ch} {i : Nat} {c : Ch} (hx : cs[i]? = some c) : nums (cs.take (i + 1)) = nums (cs.take i) ++ [c.2] := by
  unfold nums
  rw [List.take_add_one, hx, List.map_append]; rfl
theorem least_new {cs : List Ch} {i k : Nat} {c : Ch} (h : Least (cs.take i) k) (hx : cs[i]? = some c) (h1 : 1 ≤ c.2 ∧ c.2 ≤ 18) (hk : k = 0 ∨ c.2 < k) : Least (cs.take (i + 1)) c.2 := by
  right
  rw [nums_snoc hx]
  refine ⟨by simp, h1.1, h1.2, fun m hm => ?_⟩
  rcases List.mem_append.mp hm with hm | hm
  · rcases h with ⟨h0, _⟩ | ⟨_, h3, _, h5⟩
    · rw [h0] at hm; cases hm
    · have := h5 m hm; omega
  · rw [List.mem_singleton.mp hm]; exact Nat.le_refl _
theorem least_old {cs : List Ch} {i k : Nat} {c : Ch} (h : Least (cs.take i) k) (hx : cs[i]? = some c) (hk : k ≠ 0) (hc : k ≤ c.2) : Least (cs.take (i + 1)) k := by
  right
  rw [nums_snoc hx]
  rcases h with ⟨_, h0⟩ | ⟨h2, h3, h4, h5⟩
  · omega
  refine ⟨List.mem_append_left _ h2, h3, h4, fun m hm => ?_⟩
  rcases List.mem_append.mp hm with hm | hm
  · exact h5 m hm
  · rw [List.mem_singleton.mp hm]; exact hc
set_option maxRecDepth 100000 in
set_option maxHeartbeats 2000000 in
theorem rleast_calls {w : World} {B : Nat} {A : Option Addr} {c : Nat} {cs : List Ch} (hr : w.ownsRow B 36 2 (.slice A cs.length c) cs.length ((cs.map lf).flatMap encL)) (hn : cs.length ≤ 1000) (h18 : Nums18 cs) :
    Calls Tryd.prog 13 #[.slice A cs.length c] w fun e w' => ∃ k, e = .returned (.int .i64 (k : Nat)) ∧ Least cs k ∧ w = w' := by
  have HR := hide (And.intro hr h18)
  clear hr h18
  go_enter Tryd.func13, Tryd.ntmps13
  go_wp2_with fail
  go_loopw [3, 4] (fun s3 s4 wr => w = wr ∧ ∃ i k : Nat, i ≤ cs.length ∧ s4 = .int .i64 i ∧ s3 = .int .i64 k ∧ Least (cs.take i) k) (fun _ s4 _ => cs.length - (intOf s4).toNat)
  case atStart => exact ⟨rfl, 0, 0, by omega, rfl, rfl, .inl ⟨by simp, rfl⟩⟩
  case round =>
    obtain ⟨rfl, i, k, hi, rfl, rfl, hle⟩ := hrel
    have i0 : (0 : Int) ≤ (i : Int) := by omega
    have Hle := hide hle
    clear hle
    by_cases hin : i < cs.length
    · have i1 : (i : Int) < (cs.length : Int) := by omega
      obtain ⟨x, hx⟩ : ∃ x, cs[i]? = some x := ⟨_, List.getElem?_eq_getElem hin⟩
      obtain ⟨g, rfl, lg, p0, p1⟩ := rleaf_cells HR.out.1 (i := i) (x := lf x) (by rw [List.getElem?_map, hx]; rfl) hin
      change w.cell? ⟨g, i * 2 + 1, none⟩ = some (.int .i64 (x.2 : Nat)) at p1
      have Hx := hide (And.intro hx (HR.out.2 x (List.mem_of_getElem? hx)))
      clear hx p0
      obtain ⟨ws, m⟩ := x
      dsimp only at *
      by_cases hk : k = 0
      · have hk' : (k : Int) = 0 := by omega
        go_wp2_with fail
        go_roundw
        case rel => exact ⟨trivial, i + 1, m, by omega, by go_num, rfl, least_new Hle.out Hx.out.1 Hx.out.2 (.inl hk)⟩
        case measure => simp [intOf]; omega
      · have hk' : (k : Int) ≠ 0 := by omega
        by_cases hlt : m < k
        · have hlt' : (m : Int) < (k : Int) := by omega
          go_wp2_with fail
          go_roundw
          case rel => exact ⟨trivial, i + 1, m, by omega, by go_num, rfl, least_new Hle.out Hx.out.1 Hx.out.2 (.inr hlt)⟩
          case measure => simp [intOf]; omega
        · have hlt' : ¬ (m : Int) < (k : Int) := by omega
          go_wp2_with fail
          go_roundw
          case rel => exact ⟨trivial, i + 1, k, by omega, by go_num, rfl, least_old Hle.out Hx.out.1 hk (by dsimp only; omega)⟩
          case measure => simp [intOf]; omega
    · obtain hc : i = cs.length := by omega
      have h0 := Hle.out
      rw [hc, List.take_length] at h0
      have H0 := hide h0
      have hnl : ¬ (i : Int) < (cs.length : Int) := by omega
      clear hc h0
      go_wp2_with fail
      go_ret
      exact ⟨k, rfl, H0.out, rfl⟩
set_option maxRecDepth 100000 in
set_option maxHeartbeats 2000000 in
theorem same_calls {w : World} {B B' : Nat} {A A' : Option Addr} {c c' : Nat} {ls : List Lf} (hr : w.ownsRow B 47 2 (.slice A ls.length c) ls.length (ls.flatMap encL)) (hr' : w.ownsRow B' 36 2 (.slice A' ls.length c') ls.length (ls.flatMap encL)) (hn : ls.length ≤ 1000) :
    Calls Tryd.prog 14 #[.slice A ls.length c, .slice A' ls.length c'] w fun e w' => e = .returned (.bool true) ∧ Fr [] w w' := by
  have HR := hide (And.intro hr hr')
  clear hr hr'
  go_enter Tryd.func14, Tryd.ntmps14
  go_wp2_with fail
  go_loopw [5] (fun s5 wr => ∃ i : Nat, i ≤ ls.length ∧ s5 = .int .i64 i ∧ Fr [] w wr) (fun s5 _ => ls.length - (intOf s5).toNat)
  case atStart => exact ⟨0, by omega, rfl, Fr.refl _ _⟩
  case round =>
    obtain ⟨i, hi, rfl, hf⟩ := hrel
    have i0 : (0 : Int) ≤ (i : Int) := by omega
    have Hf := hide hf
    clear hf
    by_cases hin : i < ls.length
    · have i1 : (i : Int) < (ls.length : Int) := by omega
      obtain ⟨x, hx⟩ : ∃ x, ls[i]? = some x := ⟨_, List.getElem?_eq_getElem hin⟩
      obtain ⟨g, rfl, lg, p0, p1⟩ := leaf_cells (row_fr HR.out.1 Hf.out (by simp)) hx hin
      obtain ⟨g', rfl, lg', q0, q1⟩ := rleaf_cells (row_fr HR.out.2 Hf.out (by simp)) hx hin
      clear hx
      go_wp2_with fail
      go_quiet (fail)
      go_wp2_with fail
      go_roundw
      case rel => exact ⟨i + 1, by omega, by go_num, Hf.out.drewN _⟩
      case measure => simp [intOf]; omega
    · obtain rfl : i = ls.length := by omega
      go_wp2_with fail
      go_ret
      exact ⟨rfl, Hf.out⟩
def hasNum (z : Int) (cs : List Ch) : Bool := cs.any fun c => decide ((c.2 : Int) = z)
theorem hasNum_snoc {z : Int} {cs : List Ch} {i : Nat} {c : Ch} (hx : cs[i]? = some c) : hasNum z (cs.take (i + 1)) = (hasNum z (cs.take i) || decide ((c.2 : Int) = z)) := by
  unfold hasNum
  rw [List.take_add_one, hx, List.any_append]; simp
theorem has_all {B : Nat} {w : World} {ad : Nat → Addr} (hs : Sents All18 B w ad) {v : Value} {cs : List Ch} (h : EV w ad v cs) (hl : cs.length ≤ 1000000) (h18 : Nums18 cs) (z : Int) :
    Calls Tryd.prog 16 #[v, .int .i64 z] w fun e w' => e = .returned (.bool (hasNum z cs)) ∧ Fr [] w w' := by
  by_cases hz : 1 ≤ z ∧ z ≤ 18
  · obtain ⟨n, rfl⟩ := Int.eq_ofNat_of_zero_le (a := z) (by omega)
    refine (has_ev hs n (by omega) (by omega) h hl).mono ?_
    rintro e w' ⟨rfl, hf⟩
    refine ⟨ret_eq (bool_eq ?_), hf⟩
    unfold hasNum nums
    rw [Bool.eq_iff_iff]
    simp only [decide_eq_true_eq, List.any_eq_true, List.mem_map]
    exact ⟨fun ⟨c, hc, e⟩ => ⟨c, hc, by omega⟩, fun ⟨c, hc, e⟩ => ⟨c, hc, by omega⟩⟩
  · refine (has_none v z (by omega)).mono ?_
    rintro e w' ⟨rfl, rfl⟩
    refine ⟨ret_eq (bool_eq ?_), Fr.refl _ _⟩
    symm
    unfold hasNum
    rw [List.any_eq_false]
    intro c hc
    have := h18 c hc
    simp only [decide_eq_true_eq]
    omega
end Go.Proofs.YtmjdnmpiheaidaaDoor

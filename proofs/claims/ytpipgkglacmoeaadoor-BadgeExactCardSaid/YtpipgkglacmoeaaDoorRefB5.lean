/- The reference's badges by contracts: Turn. -/
import Derived.Test.YtpipgkglacmoeaaDoorRefB4
namespace Go.Proofs.YtpipgkglacmoeaaDoor
open Go.RowKit
section
variable {B : Nat} {w w' w1 : World} {g : Nat} {ls ls' : List (Int × Ent)} {nx : Int} {S T : List Nat}
theorem RR.next (h : RR B w g ls nx S) (n : Int) : RR B (w.setCell ⟨g, 1, none⟩ (.int .i64 n)) g ls n S ∧ Fr S w (w.setCell ⟨g, 1, none⟩ (.int .i64 n)) := by
  obtain ⟨vs, h1, h2, h3, rfl⟩ := h
  exact ⟨⟨vs, by simpa using h1.set_ 1 (.int .i64 n), row_far h2 (fun e => row_blk_ne h2 h1 (by decide) e) _, h3, rfl⟩, (Fr.refl _ _).setCell (.inl (by simp)) _⟩
theorem last_at {ls : List (Int × Ent)} (h : ls ≠ []) : ∃ m x, ls.length = m + 1 ∧ ls[m]? = some x ∧ (ls.map (·.1)).getLast? = some x.1 := by
  obtain ⟨m, hm⟩ : ∃ m, ls.length = m + 1 := ⟨ls.length - 1, by have := List.length_pos_iff.mpr h; omega⟩
  refine ⟨m, ls[m], hm, by simp [hm], ?_⟩
  have e : (ls.map (·.1)).length - 1 = m := by rw [List.length_map]; omega
  rw [List.getLast?_eq_getElem?, e, List.getElem?_map, List.getElem?_eq_getElem (by omega)]; rfl
end
def RturnPost (B : Nat) (w : World) (g : Nat) (ls : List (Int × Ent)) (nx : Int) (S : List Nat) (next : Int) (e : Ending) (w' : World) : Prop :=
  ((next < 1 ∨ 1073741825 < next ∨ turnB (ls.map (·.1)) next = true) ∧ e = .returned (.tuple #[.int .i64 0, .int .i64 1]) ∧ Fr [] w w') ∨
  ((1 ≤ next ∧ next ≤ 1073741825 ∧ turnB (ls.map (·.1)) next = false) ∧ e = .returned (.tuple #[.int .i64 nx, .int .i64 0]) ∧ RR B w' g ls next S ∧ Fr S w w')
set_option maxRecDepth 100000 in
set_option maxHeartbeats 4000000 in
theorem rturn_calls {B : Nat} {w : World} {g : Nat} {ls : List (Int × Ent)} {nx : Int} {S : List Nat} (h : RR B w g ls nx S) (hl : ls.length ≤ 100000) (next : Int) :
    Calls Tryd.prog 23 #[.pointer (some ⟨g, 0, none⟩), .int .i64 next] w (RturnPost B w g ls nx S next) := by
  have H := hide (fun W (hf : Fr [] w W) => (h.fr0 hf).next next)
  obtain ⟨A, c, hg, hcell⟩ := h.form
  have c0 := hg.at_ 0 (v := .slice A ls.length c) rfl
  have c1 := hg.at_ 1 (v := .int .i64 nx) rfl
  have lg := hg.lt
  have fg := hg.frozen
  clear h hg
  by_cases k1 : next < 1
  · clear hcell
    go_enter Tryd.func23, Tryd.ntmps23
    go_wp2_with fail
    go_quiet (fail)
    go_wp2_with fail
    go_ret2
    exact .inl ⟨.inl k1, rfl, (Fr.refl [] w).drewN nq⟩
  have d1 : decide (next < 1) = false := by simpa using k1
  by_cases k2 : 1073741825 < next
  · have d2 : decide (1073741825 < next) = true := by simpa using k2
    have Hk := hide k2
    clear hcell k1 k2
    go_enter Tryd.func23, Tryd.ntmps23
    go_wp2_with fail
    go_quiet (fail)
    go_wp2_with fail
    go_ret2
    exact .inl ⟨.inr (.inl Hk.out), rfl, (Fr.refl [] w).drewN nq⟩
  have d2 : decide (1073741825 < next) = false := by simpa using k2
  have Hk := hide (And.intro k1 k2)
  clear k1 k2
  by_cases k3 : ls = []
  · subst k3
    clear hcell
    have hd : decide ((0 : Int) < 0) = false := rfl
    simp only [List.length_nil] at c0
    go_enter Tryd.func23, Tryd.ntmps23
    go_wp2_with fail
    go_quiet (fail)
    go_wp2_with fail
    go_ret2
    obtain ⟨r1, r2⟩ := H.out (w.drewN nq) ((Fr.refl _ _).drewN nq)
    exact .inr ⟨⟨by have := Hk.out.1; omega, by have := Hk.out.2; omega, rfl⟩, rfl, r1, (((Fr.refl [] w).drewN nq).any S).trans r2⟩
  · obtain ⟨m, x, hm, hx, hlast⟩ := last_at k3
    obtain ⟨b, rfl, lb, x0, -, -⟩ := hcell m x hx
    rw [hm] at c0 hl
    have m0 : (0 : Int) ≤ (m : Int) := by omega
    have m1 : (0 : Int) < ((m + 1 : Nat) : Int) := by omega
    have m2 : ((m + 1 : Nat) : Int) - 1 = (m : Int) := by omega
    have m3 : (m : Int) < ((m + 1 : Nat) : Int) := by omega
    have Hl := hide hlast
    clear hlast hx hm k3 hcell
    by_cases hdn : next ≤ x.1
    · have d3 : decide (next ≤ x.1) = true := by simpa using hdn
      go_enter Tryd.func23, Tryd.ntmps23
      go_wp2_with fail
      go_quiet (fail)
      go_wp2_with fail
      go_ret2
      exact .inl ⟨.inr (.inr (by unfold turnB; rw [Hl.out]; simpa using hdn)), rfl, (Fr.refl [] w).drewN nq⟩
    · have d3 : decide (next ≤ x.1) = false := by simpa using hdn
      go_enter Tryd.func23, Tryd.ntmps23
      go_wp2_with fail
      go_quiet (fail)
      go_wp2_with fail
      go_ret2
      obtain ⟨r1, r2⟩ := H.out (w.drewN nq) ((Fr.refl _ _).drewN nq)
      exact .inr ⟨⟨by have := Hk.out.1; omega, by have := Hk.out.2; omega, by unfold turnB; rw [Hl.out]; simpa using hdn⟩, rfl, r1, (((Fr.refl [] w).drewN nq).any S).trans r2⟩
end Go.Proofs.YtpipgkglacmoeaaDoor

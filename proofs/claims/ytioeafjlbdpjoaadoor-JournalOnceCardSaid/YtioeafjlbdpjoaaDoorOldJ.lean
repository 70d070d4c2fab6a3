/- Whether an entry is old, by the reference. -/
import Derived.Test.YtioeafjlbdpjoaaDoorRefJ2
import Derived.Test.YtioeafjlbdpjoaaDoorNoteJ
namespace Go.Proofs.YtioeafjlbdpjoaaDoor
open Go.RowKit
def oldB (x u : Un) : Bool :=
  if u.kind = 1 then ((x.kind == 1 || x.kind == 4) && x.id == u.id && x.p.c == u.p.c) || (x.kind == 2 && x.id == u.id)
  else if u.kind = 6 then x.kind == 6 && x.n == u.n
  else if u.kind = 7 ∨ u.kind = 8 ∨ u.kind = 9 then x.kind == u.kind else false
set_option maxRecDepth 100000 in
set_option maxHeartbeats 4000000 in
theorem old_1 (w : World) (d1 d2 : Ud) (h : d2.u.kind = 1) : Calls Tryd.prog 42 #[d1.val, d2.val] w fun e w' => e = .returned (.bool (oldB d1.u d2.u)) ∧ Fr [] w w' := by
  have e1 : oldB d1.u d2.u = (((d1.u.kind == 1 || d1.u.kind == 4) && d1.u.id == d2.u.id && d1.u.p.c == d2.u.p.c) || (d1.u.kind == 2 && d1.u.id == d2.u.id)) := by simp [oldB, h]
  rw [e1]
  unfold Ud.val
  rw [h]
  clear h e1
  generalize d1.u.kind = k1
  generalize d1.u.id = i1
  generalize d1.u.p.c = c1
  generalize d2.u.id = i2
  generalize d2.u.p.c = c2
  go_enter Tryd.func42, Tryd.ntmps42
  go_wp2_with fail
  all_goals (go_ret; refine ⟨ret_eq (bool_eq (by simp [*])), ((Fr.refl _ _).alloc _).alloc _⟩)
set_option maxRecDepth 100000 in
set_option maxHeartbeats 4000000 in
theorem old_6 (w : World) (d1 d2 : Ud) (h : d2.u.kind = 6) : Calls Tryd.prog 42 #[d1.val, d2.val] w fun e w' => e = .returned (.bool (oldB d1.u d2.u)) ∧ Fr [] w w' := by
  have e1 : oldB d1.u d2.u = (d1.u.kind == 6 && d1.u.n == d2.u.n) := by simp [oldB, h]
  rw [e1]
  unfold Ud.val
  rw [h]
  clear h e1
  generalize d1.u.kind = k1
  generalize d1.u.n = n1
  generalize d2.u.n = n2
  go_enter Tryd.func42, Tryd.ntmps42
  go_wp2_with fail
  all_goals (go_ret; refine ⟨ret_eq (bool_eq (by simp [*])), ((Fr.refl _ _).alloc _).alloc _⟩)
set_option maxRecDepth 100000 in
set_option maxHeartbeats 4000000 in
theorem old_7 (w : World) (d1 d2 : Ud) (h : d2.u.kind = 7) : Calls Tryd.prog 42 #[d1.val, d2.val] w fun e w' => e = .returned (.bool (oldB d1.u d2.u)) ∧ Fr [] w w' := by
  have e1 : oldB d1.u d2.u = (d1.u.kind == 7) := by simp [oldB, h]
  rw [e1]
  unfold Ud.val
  rw [h]
  clear h e1
  generalize d1.u.kind = k1
  generalize d1.u.n = n1
  generalize d2.u.n = n2
  go_enter Tryd.func42, Tryd.ntmps42
  go_wp2_with fail
  all_goals (go_ret; refine ⟨ret_eq (bool_eq (by simp [*])), ((Fr.refl _ _).alloc _).alloc _⟩)
set_option maxRecDepth 100000 in
set_option maxHeartbeats 4000000 in
theorem old_8 (w : World) (d1 d2 : Ud) (h : d2.u.kind = 8) : Calls Tryd.prog 42 #[d1.val, d2.val] w fun e w' => e = .returned (.bool (oldB d1.u d2.u)) ∧ Fr [] w w' := by
  have e1 : oldB d1.u d2.u = (d1.u.kind == 8) := by simp [oldB, h]
  rw [e1]
  unfold Ud.val
  rw [h]
  clear h e1
  generalize d1.u.kind = k1
  generalize d1.u.n = n1
  generalize d2.u.n = n2
  go_enter Tryd.func42, Tryd.ntmps42
  go_wp2_with fail
  all_goals (go_ret; refine ⟨ret_eq (bool_eq (by simp [*])), ((Fr.refl _ _).alloc _).alloc _⟩)
set_option maxRecDepth 100000 in
set_option maxHeartbeats 4000000 in
theorem old_9 (w : World) (d1 d2 : Ud) (h : d2.u.kind = 9) : Calls Tryd.prog 42 #[d1.val, d2.val] w fun e w' => e = .returned (.bool (oldB d1.u d2.u)) ∧ Fr [] w w' := by
  have e1 : oldB d1.u d2.u = (d1.u.kind == 9) := by simp [oldB, h]
  rw [e1]
  unfold Ud.val
  rw [h]
  clear h e1
  generalize d1.u.kind = k1
  generalize d1.u.n = n1
  generalize d2.u.n = n2
  go_enter Tryd.func42, Tryd.ntmps42
  go_wp2_with fail
  all_goals (go_ret; refine ⟨ret_eq (bool_eq (by simp [*])), ((Fr.refl _ _).alloc _).alloc _⟩)
set_option maxRecDepth 100000 in
set_option maxHeartbeats 4000000 in
theorem old_o (w : World) (d1 d2 : Ud) (h1 : d2.u.kind ≠ 1) (h6 : d2.u.kind ≠ 6) (h7 : d2.u.kind ≠ 7) (h8 : d2.u.kind ≠ 8) (h9 : d2.u.kind ≠ 9) : Calls Tryd.prog 42 #[d1.val, d2.val] w fun e w' => e = .returned (.bool (oldB d1.u d2.u)) ∧ Fr [] w w' := by
  have e1 : oldB d1.u d2.u = false := by simp [oldB, h1, h6, h7, h8, h9]
  rw [e1]
  unfold Ud.val
  generalize d2.u.kind = kd at *
  have f1 : (kd == 1) = false := by simp [h1]
  have f6 : (kd == 6) = false := by simp [h6]
  have f7 : (kd == 7) = false := by simp [h7]
  have f8 : (kd == 8) = false := by simp [h8]
  have f9 : (kd == 9) = false := by simp [h9]
  clear e1 h1 h6 h7 h8 h9
  generalize d1.u.kind = k1
  generalize d1.u.n = n1
  generalize d2.u.n = n2
  go_enter Tryd.func42, Tryd.ntmps42
  go_wp2_with fail
  all_goals (go_ret; refine ⟨ret_eq (bool_eq (by simp [*])), ((Fr.refl _ _).alloc _).alloc _⟩)
theorem old_calls (w : World) (d1 d2 : Ud) : Calls Tryd.prog 42 #[d1.val, d2.val] w fun e w' => e = .returned (.bool (oldB d1.u d2.u)) ∧ Fr [] w w' := by
  by_cases h1 : d2.u.kind = 1
  · exact old_1 w d1 d2 h1
  by_cases h6 : d2.u.kind = 6
  · exact old_6 w d1 d2 h6
  by_cases h7 : d2.u.kind = 7
  · exact old_7 w d1 d2 h7
  by_cases h8 : d2.u.kind = 8
  · exact old_8 w d1 d2 h8
  by_cases h9 : d2.u.kind = 9
  · exact old_9 w d1 d2 h9
  exact old_o w d1 d2 h1 h6 h7 h8 h9
/-- the two ways of saying that an entry says nothing new are one -/
theorem stale_old (s : St) (u : Un) (hk : 1 ≤ u.kind ∧ u.kind ≤ 9) (hs : ∀ x ∈ s.us, 1 ≤ x.kind ∧ x.kind ≤ 9) : stale s u = s.us.any fun x => oldB x u := by
  have key : ∀ x ∈ s.us, (oldB x u = true ↔ ∃ k ∈ othersK u, k = ownK x) := by
    intro x hx
    have hx9 := hs x hx
    unfold oldB othersK
    by_cases h1 : u.kind = 1
    · rw [if_pos h1, if_pos h1]
      unfold ownK
      by_cases a1 : x.kind = 1
      · simp [a1]
        try exact ⟨fun h => ⟨h.1.symm, h.2.symm⟩, fun h => ⟨h.1.symm, h.2.symm⟩⟩
      · by_cases a4 : x.kind = 4
        · simp [a4]
          try exact ⟨fun h => ⟨h.1.symm, h.2.symm⟩, fun h => ⟨h.1.symm, h.2.symm⟩⟩
        · by_cases a2 : x.kind = 2
          · simp [a2]
            try exact ⟨fun h => h.symm, fun h => h.symm⟩
          · by_cases a6 : x.kind = 6
            · simp [a6]
            · by_cases a7 : x.kind = 7 ∨ x.kind = 8 ∨ x.kind = 9
              · rw [if_neg a1, if_neg a4, if_neg a2, if_neg a6, if_pos a7]
                simp [a1, a4, a2]
                try exact ⟨fun e => absurd e.symm a1, fun e => absurd e.symm a4, fun e => absurd e.symm a2⟩
              · rw [if_neg a1, if_neg a4, if_neg a2, if_neg a6, if_neg a7]
                simp [a1, a4, a2]
                try exact ⟨fun e => absurd e.symm a1, fun e => absurd e.symm a4, fun e => absurd e.symm a2⟩
    · rw [if_neg h1, if_neg h1]
      by_cases h6 : u.kind = 6
      · rw [if_pos h6, if_pos h6]
        unfold ownK
        by_cases a6 : x.kind = 6
        · simp [a6]
          exact ⟨fun h => h.symm, fun h => h.symm⟩
        · by_cases a1 : x.kind = 1
          · simp [a1]
          · by_cases a4 : x.kind = 4
            · simp [a4]
            · by_cases a2 : x.kind = 2
              · simp [a2]
              · by_cases a7 : x.kind = 7 ∨ x.kind = 8 ∨ x.kind = 9
                · rw [if_neg a1, if_neg a4, if_neg a2, if_neg a6, if_pos a7]
                  simp [a6]
                  exact fun e => absurd e.symm a6
                · rw [if_neg a1, if_neg a4, if_neg a2, if_neg a6, if_neg a7]
                  simp [a6]
                  exact fun e => absurd e.symm a6
      · rw [if_neg h6, if_neg h6]
        by_cases h7 : u.kind = 7 ∨ u.kind = 8 ∨ u.kind = 9
        · rw [if_pos h7, if_pos h7]
          unfold ownK
          by_cases a1 : x.kind = 1
          · simp [a1]; constructor <;> intro h <;> omega
          · by_cases a4 : x.kind = 4
            · simp [a4]; constructor <;> intro h <;> omega
            · by_cases a2 : x.kind = 2
              · simp [a2]; constructor <;> intro h <;> omega
              · by_cases a6 : x.kind = 6
                · simp [a6]; constructor <;> intro h <;> omega
                · by_cases a7 : x.kind = 7 ∨ x.kind = 8 ∨ x.kind = 9
                  · rw [if_neg a1, if_neg a4, if_neg a2, if_neg a6, if_pos a7]
                    simp
                    exact ⟨fun h => h.symm, fun h => h.symm⟩
                  · rw [if_neg a1, if_neg a4, if_neg a2, if_neg a6, if_neg a7]
                    simp
                    constructor
                    · intro h; omega
                    · rintro ⟨h, _⟩; omega
        · rw [if_neg h7, if_neg h7]; simp
  unfold stale
  rw [Bool.eq_iff_iff, List.any_eq_true, List.any_eq_true]
  constructor
  · rintro ⟨k, hk1, hk2⟩
    obtain ⟨x, hx, rfl⟩ := List.mem_map.1 (of_decide_eq_true hk2)
    exact ⟨x, hx, (key x hx).2 ⟨_, hk1, rfl⟩⟩
  · rintro ⟨x, hx, ho⟩
    obtain ⟨k, hk1, rfl⟩ := (key x hx).1 ho
    exact ⟨_, hk1, decide_eq_true (List.mem_map.2 ⟨x, hx, rfl⟩)⟩
end Go.Proofs.YtioeafjlbdpjoaaDoor

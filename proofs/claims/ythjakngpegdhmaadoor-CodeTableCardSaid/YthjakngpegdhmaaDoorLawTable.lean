/- CodeTable: the walk of the law. -/
import Derived.Test.YthjakngpegdhmaaDoorEnv
import Derived.Test.YthjakngpegdhmaaDoorRefOf
import Derived.Test.YthjakngpegdhmaaDoorLawWords
namespace Go.Proofs.YthjakngpegdhmaaDoor
open Go.RowKit

def wantP (ws : List UInt8) : Nat → Int × Bool
  | 0 => (0, false)
  | k + 1 => if (rowsL.getD k zR).w = ws then ((k : Int), true) else wantP ws k
theorem want_none {ws : List UInt8} : ∀ {k : Nat}, (∀ i, i < k → (rowsL.getD i zR).w ≠ ws) → wantP ws k = (0, false)
  | 0, _ => rfl
  | k + 1, h => by rw [wantP, if_neg (h k (by omega)), want_none fun i hi => h i (by omega)]
theorem want_hit {ws : List UInt8} {j : Nat} (hj : (rowsL.getD j zR).w = ws) : ∀ {k : Nat}, j < k → (∀ i, i < k → i ≠ j → (rowsL.getD i zR).w ≠ ws) → wantP ws k = ((j : Int), true)
  | 0, h, _ => by omega
  | k + 1, h, hn => by
    rw [wantP]
    by_cases e : k = j
    · subst e; rw [if_pos hj]
    · rw [if_neg (hn k (by omega) e), want_hit hj (by omega) fun i hi he => hn i (by omega) he]
theorem want_find (ws : List UInt8) : wantP ws 36 = findP ws := by
  by_cases h : ∃ j, j < 36 ∧ (rowsL.getD j zR).w = ws
  · obtain ⟨j, hj, hw⟩ := h
    have h1 := find_name j hj
    rw [hw] at h1
    rw [h1]
    refine want_hit hw hj fun i hi hne he => hne ?_
    refine name_inj hi hj ?_
    rw [rowOf_nat hi, rowOf_nat hj, he, hw]
  · rw [want_none fun i hi he => h ⟨i, hi, he⟩]
    refine (findL_none fun r hr he => ?_).symm
    obtain ⟨j, hj⟩ := List.mem_iff_getElem?.1 hr
    have hl := (List.getElem?_eq_some_iff.1 hj).1
    rw [rows_len] at hl
    refine h ⟨j, hl, ?_⟩
    rw [List.getD_eq_getElem?_getD, hj]; exact he
theorem blk4_cells {w : World} {b : Nat} {t : TypeId} {v0 v1 v2 v3 : Value} (h : Blk w b t #[v0, v1, v2, v3]) : w.cell? ⟨b, 0, none⟩ = some v0 ∧ w.cell? ⟨b, 1, none⟩ = some v1 ∧ w.cell? ⟨b, 2, none⟩ = some v2 ∧ w.cell? ⟨b, 3, none⟩ = some v3 :=
  ⟨h.at_ 0 rfl, h.at_ 1 rfl, h.at_ 2 rfl, h.at_ 3 rfl⟩
set_option maxRecDepth 100000 in
set_option maxHeartbeats 16000000 in
theorem table_walk {K : List Nat} {ad : Nat → Addr} {w : World} (E : Env K ad w) (op : Int) (ws : List UInt8) (hl : ws.length ≤ maxLen) :
    Calls Tryd.prog 3 #[.int .i64 op, .string ⟨ws.toArray⟩] w fun e w' => e = .returned (.bool true) ∧ Below w.heap.size w w' := by
  unfold maxLen at hl
  have HA := hide E.awake
  have H0 := hide E
  clear E
  have hsz : (⟨ws.toArray⟩ : ByteArray).size = ws.length := by simp [ByteArray.size]
  by_cases h100 : 100 < ws.length
  · have k1 : (100 : Int) < (ws.length : Int) := by omega
    go_enter Tryd.func3, Tryd.ntmps3
    go_wp2_with fail
    refine HA.out.mono ?_
    rintro e w1 ⟨rfl, hf⟩
    have Hf := hide hf
    clear hf
    go_wp2_with fail
    go_ret
    exact ⟨rfl, Hf.out.below (by simp) (Nat.le_refl _)⟩
  have k1 : ¬ (100 : Int) < (ws.length : Int) := by omega
  go_enter Tryd.func3, Tryd.ntmps3
  go_wp2_with fail
  refine HA.out.mono ?_
  rintro e w1 ⟨rfl, hf1⟩
  have Hf1 := hide hf1
  clear hf1 HA
  go_wp2_with fail
  refine (refOf_calls op).mono ?_
  rintro e w2 ⟨rfl, hf2⟩
  have Hf2 := hide (Hf1.out.trans hf2)
  clear hf2 Hf1
  have HN := hide (fun W (h : Fr [] w W) => name_calls (H0.out.tab.fr0 h) op)
  have HG := hide (fun W (h : Fr [] w W) => args_calls (H0.out.tab.fr0 h) op)
  have HM := hide (fun W (h : Fr [] w W) => moves_calls (H0.out.tab.fr0 h) op)
  have HJ := hide (fun W (h : Fr [] w W) => jumps_calls (H0.out.tab.fr0 h) op)
  have hjb : jumpsB op = (op == 20 || op == 21) := by unfold jumpsB; rw [Bool.eq_iff_iff]; simp
  have hob : onB op = (isOp op && !(op == 20) && !(op == 35)) := by
    unfold onB
    congr 1
    · congr 1
      rw [Bool.eq_iff_iff]; simp
    · rw [Bool.eq_iff_iff]; simp
  rw [hjb, hob] at HJ
  clear hjb hob
  have hisO : (op == 20) = true ∨ (op == 21) = true ∨ (op == 35) = true → isOp op = true := by
    simp only [beq_iff_eq]
    rintro (rfl | rfl | rfl) <;> rfl
  have HisO := hide hisO
  clear hisO
  generalize rowOf op = r at *
  generalize isOp op = b at *
  obtain ⟨rw_, ra, rt, rl⟩ := r
  simp only [encR] at HN HG HM HJ ⊢
  go_wp2_with fail
  have hf3 : Fr [] w (w2.alloc (.cells #[.string ⟨rw_.toArray⟩, .int .i64 ra, .int .i64 rt, .int .i64 rl] 24)) := Hf2.out.alloc _
  refine (HM.out _ hf3).mono ?_
  rintro e w3 ⟨rfl, hf4⟩
  have Hb3 := hide ((Blk.new w2 24 #[.string ⟨rw_.toArray⟩, .int .i64 ra, .int .i64 rt, .int .i64 rl]).fr0 hf4)
  have Hf3 := hide (hf3.trans hf4)
  clear hf3 hf4 HM Hf2
  go_wp2_with fail
  refine (HJ.out _ Hf3.out).mono ?_
  rintro e w4 ⟨rfl, hf4⟩
  have Hb4 := hide (Hb3.out.fr0 hf4)
  have Hf4 := hide (Hf3.out.trans hf4)
  clear hf4 HJ Hf3 Hb3
  go_upto_region 8 with (fail)
  obtain ⟨c0, c1, c2, c3⟩ := blk4_cells Hb4.out
  have lb4 := Hb4.out.lt
  generalize w2.heap.size = bb at *
  go_cut [9, 10, 84] (fun _ _ v84 wr => v84 = .bool false ∧ Fr [] w wr)
  case first =>
    have hcase : ((op == 20) = true ∧ (op == 21) = false ∧ (op == 35) = false) ∨ ((op == 20) = false ∧ (op == 21) = true ∧ (op == 35) = false) ∨ ((op == 20) = false ∧ (op == 21) = false ∧ (op == 35) = true) ∨ ((op == 20) = false ∧ (op == 21) = false ∧ (op == 35) = false) := by
      simp only [beq_eq_false_iff_ne, beq_iff_eq]; omega
    have hb : (op == 20) = true ∨ (op == 21) = true ∨ (op == 35) = true → b = true := HisO.out
    rcases hcase with ⟨n20, n21, n35⟩ | ⟨n20, n21, n35⟩ | ⟨n20, n21, n35⟩ | ⟨n20, n21, n35⟩
    · obtain rfl := hb (.inl n20)
      clear hb
      rw [n20, n21, n35]
      simp only [Bool.or_true, Bool.true_or, Bool.or_false, Bool.false_or, Bool.not_true, Bool.not_false, Bool.and_true, Bool.and_false, Bool.true_and, Bool.false_and]
      refine wp_region_held_drew (S := fun w' => w'.cell? ⟨bb, 0, none⟩ = some (.string ⟨rw_.toArray⟩) ∧ w'.cell? ⟨bb, 1, none⟩ = some (.int .i64 ra) ∧ w'.cell? ⟨bb, 2, none⟩ = some (.int .i64 rt) ∧ w'.cell? ⟨bb, 3, none⟩ = some (.int .i64 rl)) (by kernel_rfl) (blk4_cells Hb4.out.drew) (fun hHeld => ?_)
      refine wpAnyH_take (i := 0) (v := .int .i64 op) rfl (by kernel_rfl) (by kernel_rfl) (by kernel_rfl) (fun _ _ _ h => h) (Or.inl ⟨by rfl, ?hy0c1⟩) (by assumption) ?rest0c1
      case hy0c1 =>
        intro w' hSw
        (try dsimp only at hSw)
        obtain ⟨s0, s1, s2, s3⟩ := hSw
        first | (go_simp; done) | (go_simp; simp [n20, n21, n35]; done) | (go_simp; simpa using n20) | (go_simp; simpa using n35)
      try simp only [Act.put, List.setIfInBounds_toArray, List.set_cons_zero, List.set_cons_succ, List.getElem_toArray, List.getElem_cons_zero, List.getElem_cons_succ]
      refine wpAnyH_take (i := 2) (v := .pointer (some ⟨bb, 0, none⟩)) rfl (by kernel_rfl) (by kernel_rfl) (by kernel_rfl) (fun _ _ _ h => h) (Or.inl ⟨by rfl, ?hy2c1⟩) (by assumption) ?rest2c1
      case hy2c1 =>
        intro w' hSw
        (try dsimp only at hSw)
        obtain ⟨s0, s1, s2, s3⟩ := hSw
        first | (go_simp; done) | (go_simp; simp [n20, n21, n35]; done) | (go_simp; simpa using n20) | (go_simp; simpa using n35)
      try simp only [Act.put, List.setIfInBounds_toArray, List.set_cons_zero, List.set_cons_succ, List.getElem_toArray, List.getElem_cons_zero, List.getElem_cons_succ]
      refine wpAnyH_take (i := 3) (v := .string ⟨rw_.toArray⟩) rfl (by kernel_rfl) (by kernel_rfl) (by kernel_rfl) (fun _ _ _ h => h) (Or.inl ⟨by rfl, ?hy3c1⟩) (by assumption) ?rest3c1
      case hy3c1 =>
        intro w' hSw
        (try dsimp only at hSw)
        obtain ⟨s0, s1, s2, s3⟩ := hSw
        first | (go_simp; done) | (go_simp; simp [n20, n21, n35]; done) | (go_simp; simpa using n20) | (go_simp; simpa using n35)
      try simp only [Act.put, List.setIfInBounds_toArray, List.set_cons_zero, List.set_cons_succ, List.getElem_toArray, List.getElem_cons_zero, List.getElem_cons_succ]
      refine wpAnyH_ready (rs := [1]) (by kernel_rfl) (by simp) ?_
      refine AllReadyH.cons rfl (fun K hK => ?_) ?_
      rotate_left
      · exact AllReadyH.nil
      go_simp
      go_at_call 12
      refine (HN.out _ Hf4.out.drew).mono ?_
      rintro e w5 ⟨rfl, hf5⟩
      have Hb5 := hide (Hb4.out.drew.fr0 hf5)
      have Hf5 := hide (Hf4.out.drew.trans hf5)
      clear hf5
      go_wp2_with fail
      refine hK.out _ _ (blk4_cells Hb5.out) (fun hHeld5 => ?_)
      clear hHeld
      clear hK K
      try simp only [Act.put, List.setIfInBounds_toArray, List.set_cons_zero, List.set_cons_succ, List.getElem_toArray, List.getElem_cons_zero, List.getElem_cons_succ]
      refine wpAnyH_take (i := 4) (v := .bool false) rfl (by kernel_rfl) (by kernel_rfl) (by kernel_rfl) (fun _ _ _ h => h) (Or.inl ⟨by rfl, ?hy4c1⟩) (by assumption) ?rest4c1
      case hy4c1 =>
        intro w' hSw
        (try dsimp only at hSw)
        obtain ⟨s0, s1, s2, s3⟩ := hSw
        first | (go_simp; done) | (go_simp; simp [n20, n21, n35]; done) | (go_simp; simpa using n20) | (go_simp; simpa using n35)
      try simp only [Act.put, List.setIfInBounds_toArray, List.set_cons_zero, List.set_cons_succ, List.getElem_toArray, List.getElem_cons_zero, List.getElem_cons_succ]
      refine wpAnyH_take (i := 5) (v := .bool false) rfl (by kernel_rfl) (by kernel_rfl) (by kernel_rfl) (fun _ _ _ h => h) (Or.inl ⟨by rfl, ?hy5c1⟩) (by assumption) ?rest5c1
      case hy5c1 =>
        intro w' hSw
        (try dsimp only at hSw)
        obtain ⟨s0, s1, s2, s3⟩ := hSw
        first | (go_simp; done) | (go_simp; simp [n20, n21, n35]; done) | (go_simp; simpa using n20) | (go_simp; simpa using n35)
      try simp only [Act.put, List.setIfInBounds_toArray, List.set_cons_zero, List.set_cons_succ, List.getElem_toArray, List.getElem_cons_zero, List.getElem_cons_succ]
      refine wpAnyH_take (i := 6) (v := .int .i64 op) rfl (by kernel_rfl) (by kernel_rfl) (by kernel_rfl) (fun _ _ _ h => h) (Or.inl ⟨by rfl, ?hy6c1⟩) (by assumption) ?rest6c1
      case hy6c1 =>
        intro w' hSw
        (try dsimp only at hSw)
        obtain ⟨s0, s1, s2, s3⟩ := hSw
        first | (go_simp; done) | (go_simp; simp [n20, n21, n35]; done) | (go_simp; simpa using n20) | (go_simp; simpa using n35)
      try simp only [Act.put, List.setIfInBounds_toArray, List.set_cons_zero, List.set_cons_succ, List.getElem_toArray, List.getElem_cons_zero, List.getElem_cons_succ]
      refine wpAnyH_take (i := 8) (v := .pointer (some ⟨bb, 1, none⟩)) rfl (by kernel_rfl) (by kernel_rfl) (by kernel_rfl) (fun _ _ _ h => h) (Or.inl ⟨by rfl, ?hy8c1⟩) (by assumption) ?rest8c1
      case hy8c1 =>
        intro w' hSw
        (try dsimp only at hSw)
        obtain ⟨s0, s1, s2, s3⟩ := hSw
        first | (go_simp; done) | (go_simp; simp [n20, n21, n35]; done) | (go_simp; simpa using n20) | (go_simp; simpa using n35)
      try simp only [Act.put, List.setIfInBounds_toArray, List.set_cons_zero, List.set_cons_succ, List.getElem_toArray, List.getElem_cons_zero, List.getElem_cons_succ]
      refine wpAnyH_take (i := 9) (v := .int .i64 ra) rfl (by kernel_rfl) (by kernel_rfl) (by kernel_rfl) (fun _ _ _ h => h) (Or.inl ⟨by rfl, ?hy9c1⟩) (by assumption) ?rest9c1
      case hy9c1 =>
        intro w' hSw
        (try dsimp only at hSw)
        obtain ⟨s0, s1, s2, s3⟩ := hSw
        first | (go_simp; done) | (go_simp; simp [n20, n21, n35]; done) | (go_simp; simpa using n20) | (go_simp; simpa using n35)
      try simp only [Act.put, List.setIfInBounds_toArray, List.set_cons_zero, List.set_cons_succ, List.getElem_toArray, List.getElem_cons_zero, List.getElem_cons_succ]
      refine wpAnyH_ready (rs := [7]) (by kernel_rfl) (by simp) ?_
      refine AllReadyH.cons rfl (fun K hK => ?_) ?_
      rotate_left
      · exact AllReadyH.nil
      go_simp
      go_at_call 13
      refine (HG.out _ Hf5.out).mono ?_
      rintro e w6 ⟨rfl, hf6⟩
      have Hb6 := hide (Hb5.out.fr0 hf6)
      have Hf6 := hide (Hf5.out.trans hf6)
      clear hf6
      go_wp2_with fail
      refine hK.out _ _ (blk4_cells Hb6.out) (fun hHeld6 => ?_)
      clear hHeld5
      clear hK K
      try simp only [Act.put, List.setIfInBounds_toArray, List.set_cons_zero, List.set_cons_succ, List.getElem_toArray, List.getElem_cons_zero, List.getElem_cons_succ]
      refine wpAnyH_take (i := 10) (v := .bool false) rfl (by kernel_rfl) (by kernel_rfl) (by kernel_rfl) (fun _ _ _ h => h) (Or.inl ⟨by rfl, ?hy10c1⟩) (by assumption) ?rest10c1
      case hy10c1 =>
        intro w' hSw
        (try dsimp only at hSw)
        obtain ⟨s0, s1, s2, s3⟩ := hSw
        first | (go_simp; done) | (go_simp; simp [n20, n21, n35]; done) | (go_simp; simpa using n20) | (go_simp; simpa using n35)
      try simp only [Act.put, List.setIfInBounds_toArray, List.set_cons_zero, List.set_cons_succ, List.getElem_toArray, List.getElem_cons_zero, List.getElem_cons_succ]
      refine wpAnyH_take (i := 11) (v := .bool false) rfl (by kernel_rfl) (by kernel_rfl) (by kernel_rfl) (fun _ _ _ h => h) (Or.inl ⟨by rfl, ?hy11c1⟩) (by assumption) ?rest11c1
      case hy11c1 =>
        intro w' hSw
        (try dsimp only at hSw)
        obtain ⟨s0, s1, s2, s3⟩ := hSw
        first | (go_simp; done) | (go_simp; simp [n20, n21, n35]; done) | (go_simp; simpa using n20) | (go_simp; simpa using n35)
      try simp only [Act.put, List.setIfInBounds_toArray, List.set_cons_zero, List.set_cons_succ, List.getElem_toArray, List.getElem_cons_zero, List.getElem_cons_succ]
      refine wpAnyH_take (i := 12) (v := .bool false) rfl (by kernel_rfl) (by kernel_rfl) (by kernel_rfl) (fun _ _ _ h => h) (Or.inl ⟨by rfl, ?hy12c1⟩) (by assumption) ?rest12c1
      case hy12c1 =>
        intro w' hSw
        (try dsimp only at hSw)
        obtain ⟨s0, s1, s2, s3⟩ := hSw
        first | (go_simp; done) | (go_simp; simp [n20, n21, n35]; done) | (go_simp; simpa using n20) | (go_simp; simpa using n35)
      try simp only [Act.put, List.setIfInBounds_toArray, List.set_cons_zero, List.set_cons_succ, List.getElem_toArray, List.getElem_cons_zero, List.getElem_cons_succ]
      refine wpAnyH_take (i := 13) (v := .int .i64 rt) rfl (by kernel_rfl) (by kernel_rfl) (by kernel_rfl) (fun _ _ _ h => h) (Or.inl ⟨by rfl, ?hy13c1⟩) (by assumption) ?rest13c1
      case hy13c1 =>
        intro w' hSw
        (try dsimp only at hSw)
        obtain ⟨s0, s1, s2, s3⟩ := hSw
        first | (go_simp; done) | (go_simp; simp [n20, n21, n35]; done) | (go_simp; simpa using n20) | (go_simp; simpa using n35)
      try simp only [Act.put, List.setIfInBounds_toArray, List.set_cons_zero, List.set_cons_succ, List.getElem_toArray, List.getElem_cons_zero, List.getElem_cons_succ]
      refine wpAnyH_take (i := 14) (v := .pointer (some ⟨bb, 2, none⟩)) rfl (by kernel_rfl) (by kernel_rfl) (by kernel_rfl) (fun _ _ _ h => h) (Or.inl ⟨by rfl, ?hy14c1⟩) (by assumption) ?rest14c1
      case hy14c1 =>
        intro w' hSw
        (try dsimp only at hSw)
        obtain ⟨s0, s1, s2, s3⟩ := hSw
        first | (go_simp; done) | (go_simp; simp [n20, n21, n35]; done) | (go_simp; simpa using n20) | (go_simp; simpa using n35)
      try simp only [Act.put, List.setIfInBounds_toArray, List.set_cons_zero, List.set_cons_succ, List.getElem_toArray, List.getElem_cons_zero, List.getElem_cons_succ]
      refine wpAnyH_take (i := 15) (v := .int .i64 rt) rfl (by kernel_rfl) (by kernel_rfl) (by kernel_rfl) (fun _ _ _ h => h) (Or.inl ⟨by rfl, ?hy15c1⟩) (by assumption) ?rest15c1
      case hy15c1 =>
        intro w' hSw
        (try dsimp only at hSw)
        obtain ⟨s0, s1, s2, s3⟩ := hSw
        first | (go_simp; done) | (go_simp; simp [n20, n21, n35]; done) | (go_simp; simpa using n20) | (go_simp; simpa using n35)
      try simp only [Act.put, List.setIfInBounds_toArray, List.set_cons_zero, List.set_cons_succ, List.getElem_toArray, List.getElem_cons_zero, List.getElem_cons_succ]
      refine wpAnyH_take (i := 16) (v := .bool false) rfl (by kernel_rfl) (by kernel_rfl) (by kernel_rfl) (fun _ _ _ h => h) (Or.inl ⟨by rfl, ?hy16c1⟩) (by assumption) ?rest16c1
      case hy16c1 =>
        intro w' hSw
        (try dsimp only at hSw)
        obtain ⟨s0, s1, s2, s3⟩ := hSw
        first | (go_simp; done) | (go_simp; simp [n20, n21, n35]; done) | (go_simp; simpa using n20) | (go_simp; simpa using n35)
      try simp only [Act.put, List.setIfInBounds_toArray, List.set_cons_zero, List.set_cons_succ, List.getElem_toArray, List.getElem_cons_zero, List.getElem_cons_succ]
      refine wpAnyH_take (i := 17) (v := .bool false) rfl (by kernel_rfl) (by kernel_rfl) (by kernel_rfl) (fun _ _ _ h => h) (Or.inl ⟨by rfl, ?hy17c1⟩) (by assumption) ?rest17c1
      case hy17c1 =>
        intro w' hSw
        (try dsimp only at hSw)
        obtain ⟨s0, s1, s2, s3⟩ := hSw
        first | (go_simp; done) | (go_simp; simp [n20, n21, n35]; done) | (go_simp; simpa using n20) | (go_simp; simpa using n35)
      try simp only [Act.put, List.setIfInBounds_toArray, List.set_cons_zero, List.set_cons_succ, List.getElem_toArray, List.getElem_cons_zero, List.getElem_cons_succ]
      refine wpAnyH_take (i := 18) (v := .bool false) rfl (by kernel_rfl) (by kernel_rfl) (by kernel_rfl) (fun _ _ _ h => h) (Or.inl ⟨by rfl, ?hy18c1⟩) (by assumption) ?rest18c1
      case hy18c1 =>
        intro w' hSw
        (try dsimp only at hSw)
        obtain ⟨s0, s1, s2, s3⟩ := hSw
        first | (go_simp; done) | (go_simp; simp [n20, n21, n35]; done) | (go_simp; simpa using n20) | (go_simp; simpa using n35)
      try simp only [Act.put, List.setIfInBounds_toArray, List.set_cons_zero, List.set_cons_succ, List.getElem_toArray, List.getElem_cons_zero, List.getElem_cons_succ]
      refine wpAnyH_take (i := 19) (v := .int .i64 rl) rfl (by kernel_rfl) (by kernel_rfl) (by kernel_rfl) (fun _ _ _ h => h) (Or.inl ⟨by rfl, ?hy19c1⟩) (by assumption) ?rest19c1
      case hy19c1 =>
        intro w' hSw
        (try dsimp only at hSw)
        obtain ⟨s0, s1, s2, s3⟩ := hSw
        first | (go_simp; done) | (go_simp; simp [n20, n21, n35]; done) | (go_simp; simpa using n20) | (go_simp; simpa using n35)
      try simp only [Act.put, List.setIfInBounds_toArray, List.set_cons_zero, List.set_cons_succ, List.getElem_toArray, List.getElem_cons_zero, List.getElem_cons_succ]
      refine wpAnyH_take (i := 20) (v := .pointer (some ⟨bb, 3, none⟩)) rfl (by kernel_rfl) (by kernel_rfl) (by kernel_rfl) (fun _ _ _ h => h) (Or.inl ⟨by rfl, ?hy20c1⟩) (by assumption) ?rest20c1
      case hy20c1 =>
        intro w' hSw
        (try dsimp only at hSw)
        obtain ⟨s0, s1, s2, s3⟩ := hSw
        first | (go_simp; done) | (go_simp; simp [n20, n21, n35]; done) | (go_simp; simpa using n20) | (go_simp; simpa using n35)
      try simp only [Act.put, List.setIfInBounds_toArray, List.set_cons_zero, List.set_cons_succ, List.getElem_toArray, List.getElem_cons_zero, List.getElem_cons_succ]
      refine wpAnyH_take (i := 21) (v := .int .i64 rl) rfl (by kernel_rfl) (by kernel_rfl) (by kernel_rfl) (fun _ _ _ h => h) (Or.inl ⟨by rfl, ?hy21c1⟩) (by assumption) ?rest21c1
      case hy21c1 =>
        intro w' hSw
        (try dsimp only at hSw)
        obtain ⟨s0, s1, s2, s3⟩ := hSw
        first | (go_simp; done) | (go_simp; simp [n20, n21, n35]; done) | (go_simp; simpa using n20) | (go_simp; simpa using n35)
      try simp only [Act.put, List.setIfInBounds_toArray, List.set_cons_zero, List.set_cons_succ, List.getElem_toArray, List.getElem_cons_zero, List.getElem_cons_succ]
      refine wpAnyH_take (i := 22) (v := .bool false) rfl (by kernel_rfl) (by kernel_rfl) (by kernel_rfl) (fun _ _ _ h => h) (Or.inl ⟨by rfl, ?hy22c1⟩) (by assumption) ?rest22c1
      case hy22c1 =>
        intro w' hSw
        (try dsimp only at hSw)
        obtain ⟨s0, s1, s2, s3⟩ := hSw
        first | (go_simp; done) | (go_simp; simp [n20, n21, n35]; done) | (go_simp; simpa using n20) | (go_simp; simpa using n35)
      try simp only [Act.put, List.setIfInBounds_toArray, List.set_cons_zero, List.set_cons_succ, List.getElem_toArray, List.getElem_cons_zero, List.getElem_cons_succ]
      refine wpAnyH_take (i := 23) (v := .bool false) rfl (by kernel_rfl) (by kernel_rfl) (by kernel_rfl) (fun _ _ _ h => h) (Or.inl ⟨by rfl, ?hy23c1⟩) (by assumption) ?rest23c1
      case hy23c1 =>
        intro w' hSw
        (try dsimp only at hSw)
        obtain ⟨s0, s1, s2, s3⟩ := hSw
        first | (go_simp; done) | (go_simp; simp [n20, n21, n35]; done) | (go_simp; simpa using n20) | (go_simp; simpa using n35)
      try simp only [Act.put, List.setIfInBounds_toArray, List.set_cons_zero, List.set_cons_succ, List.getElem_toArray, List.getElem_cons_zero, List.getElem_cons_succ]
      refine wpAnyH_take (i := 24) (v := .bool false) rfl (by kernel_rfl) (by kernel_rfl) (by kernel_rfl) (fun _ _ _ h => h) (Or.inl ⟨by rfl, ?hy24c1⟩) (by assumption) ?rest24c1
      case hy24c1 =>
        intro w' hSw
        (try dsimp only at hSw)
        obtain ⟨s0, s1, s2, s3⟩ := hSw
        first | (go_simp; done) | (go_simp; simp [n20, n21, n35]; done) | (go_simp; simpa using n20) | (go_simp; simpa using n35)
      try simp only [Act.put, List.setIfInBounds_toArray, List.set_cons_zero, List.set_cons_succ, List.getElem_toArray, List.getElem_cons_zero, List.getElem_cons_succ]
      refine wpAnyH_take (i := 25) (v := .bool true) rfl (by kernel_rfl) (by kernel_rfl) (by kernel_rfl) (fun _ _ _ h => h) (Or.inl ⟨by rfl, ?hy25c1⟩) (by assumption) ?rest25c1
      case hy25c1 =>
        intro w' hSw
        (try dsimp only at hSw)
        obtain ⟨s0, s1, s2, s3⟩ := hSw
        first | (go_simp; done) | (go_simp; simp [n20, n21, n35]; done) | (go_simp; simpa using n20) | (go_simp; simpa using n35)
      try simp only [Act.put, List.setIfInBounds_toArray, List.set_cons_zero, List.set_cons_succ, List.getElem_toArray, List.getElem_cons_zero, List.getElem_cons_succ]
      refine wpAnyH_take (i := 26) (v := .int .i64 op) rfl (by kernel_rfl) (by kernel_rfl) (by kernel_rfl) (fun _ _ _ h => h) (Or.inl ⟨by rfl, ?hy26c1⟩) (by assumption) ?rest26c1
      case hy26c1 =>
        intro w' hSw
        (try dsimp only at hSw)
        obtain ⟨s0, s1, s2, s3⟩ := hSw
        first | (go_simp; done) | (go_simp; simp [n20, n21, n35]; done) | (go_simp; simpa using n20) | (go_simp; simpa using n35)
      try simp only [Act.put, List.setIfInBounds_toArray, List.set_cons_zero, List.set_cons_succ, List.getElem_toArray, List.getElem_cons_zero, List.getElem_cons_succ]
      refine wpAnyH_take (i := 27) (v := .bool true) rfl (by kernel_rfl) (by kernel_rfl) (by kernel_rfl) (fun _ _ _ h => h) (Or.inl ⟨by rfl, ?hy27c1⟩) (by assumption) ?rest27c1
      case hy27c1 =>
        intro w' hSw
        (try dsimp only at hSw)
        obtain ⟨s0, s1, s2, s3⟩ := hSw
        first | (go_simp; done) | (go_simp; simp [n20, n21, n35]; done) | (go_simp; simpa using n20) | (go_simp; simpa using n35)
      try simp only [Act.put, List.setIfInBounds_toArray, List.set_cons_zero, List.set_cons_succ, List.getElem_toArray, List.getElem_cons_zero, List.getElem_cons_succ]
      refine wpAnyH_take (i := 28) (v := .bool true) rfl (by kernel_rfl) (by kernel_rfl) (by kernel_rfl) (fun _ _ _ h => h) (Or.inl ⟨by rfl, ?hy28c1⟩) (by assumption) ?rest28c1
      case hy28c1 =>
        intro w' hSw
        (try dsimp only at hSw)
        obtain ⟨s0, s1, s2, s3⟩ := hSw
        first | (go_simp; done) | (go_simp; simp [n20, n21, n35]; done) | (go_simp; simpa using n20) | (go_simp; simpa using n35)
      try simp only [Act.put, List.setIfInBounds_toArray, List.set_cons_zero, List.set_cons_succ, List.getElem_toArray, List.getElem_cons_zero, List.getElem_cons_succ]
      refine wpAnyH_take (i := 29) (v := undef) rfl (by kernel_rfl) (by kernel_rfl) (by kernel_rfl) (fun _ _ _ h => h) (Or.inr ⟨by rfl, rfl⟩) (by assumption) ?_
      try simp only [Act.put, List.setIfInBounds_toArray, List.set_cons_zero, List.set_cons_succ, List.getElem_toArray, List.getElem_cons_zero, List.getElem_cons_succ]
      refine wpAnyH_take (i := 30) (v := undef) rfl (by kernel_rfl) (by kernel_rfl) (by kernel_rfl) (fun _ _ _ h => h) (Or.inr ⟨by rfl, rfl⟩) (by assumption) ?_
      try simp only [Act.put, List.setIfInBounds_toArray, List.set_cons_zero, List.set_cons_succ, List.getElem_toArray, List.getElem_cons_zero, List.getElem_cons_succ]
      refine wpAnyH_take (i := 31) (v := .bool true) rfl (by kernel_rfl) (by kernel_rfl) (by kernel_rfl) (fun _ _ _ h => h) (Or.inl ⟨by rfl, ?hy31c1⟩) (by assumption) ?rest31c1
      case hy31c1 =>
        intro w' hSw
        (try dsimp only at hSw)
        obtain ⟨s0, s1, s2, s3⟩ := hSw
        first | (go_simp; done) | (go_simp; simp [n20, n21, n35]; done) | (go_simp; simpa using n20) | (go_simp; simpa using n35)
      try simp only [Act.put, List.setIfInBounds_toArray, List.set_cons_zero, List.set_cons_succ, List.getElem_toArray, List.getElem_cons_zero, List.getElem_cons_succ]
      refine wpAnyH_take (i := 32) (v := .bool false) rfl (by kernel_rfl) (by kernel_rfl) (by kernel_rfl) (fun _ _ _ h => h) (Or.inl ⟨by rfl, ?hy32c1⟩) (by assumption) ?rest32c1
      case hy32c1 =>
        intro w' hSw
        (try dsimp only at hSw)
        obtain ⟨s0, s1, s2, s3⟩ := hSw
        first | (go_simp; done) | (go_simp; simp [n20, n21, n35]; done) | (go_simp; simpa using n20) | (go_simp; simpa using n35)
      try simp only [Act.put, List.setIfInBounds_toArray, List.set_cons_zero, List.set_cons_succ, List.getElem_toArray, List.getElem_cons_zero, List.getElem_cons_succ]
      refine wpAnyH_take (i := 33) (v := .bool false) rfl (by kernel_rfl) (by kernel_rfl) (by kernel_rfl) (fun _ _ _ h => h) (Or.inl ⟨by rfl, ?hy33c1⟩) (by assumption) ?rest33c1
      case hy33c1 =>
        intro w' hSw
        (try dsimp only at hSw)
        obtain ⟨s0, s1, s2, s3⟩ := hSw
        first | (go_simp; done) | (go_simp; simp [n20, n21, n35]; done) | (go_simp; simpa using n20) | (go_simp; simpa using n35)
      try simp only [Act.put, List.setIfInBounds_toArray, List.set_cons_zero, List.set_cons_succ, List.getElem_toArray, List.getElem_cons_zero, List.getElem_cons_succ]
      refine wpAnyH_take (i := 34) (v := .bool false) rfl (by kernel_rfl) (by kernel_rfl) (by kernel_rfl) (fun _ _ _ h => h) (Or.inl ⟨by rfl, ?hy34c1⟩) (by assumption) ?rest34c1
      case hy34c1 =>
        intro w' hSw
        (try dsimp only at hSw)
        obtain ⟨s0, s1, s2, s3⟩ := hSw
        first | (go_simp; done) | (go_simp; simp [n20, n21, n35]; done) | (go_simp; simpa using n20) | (go_simp; simpa using n35)
      try simp only [Act.put, List.setIfInBounds_toArray, List.set_cons_zero, List.set_cons_succ, List.getElem_toArray, List.getElem_cons_zero, List.getElem_cons_succ]
      refine wpAnyH_take (i := 35) (v := .bool false) rfl (by kernel_rfl) (by kernel_rfl) (by kernel_rfl) (fun _ _ _ h => h) (Or.inl ⟨by rfl, ?hy35c1⟩) (by assumption) ?rest35c1
      case hy35c1 =>
        intro w' hSw
        (try dsimp only at hSw)
        obtain ⟨s0, s1, s2, s3⟩ := hSw
        first | (go_simp; done) | (go_simp; simp [n20, n21, n35]; done) | (go_simp; simpa using n20) | (go_simp; simpa using n35)
      try simp only [Act.put, List.setIfInBounds_toArray, List.set_cons_zero, List.set_cons_succ, List.getElem_toArray, List.getElem_cons_zero, List.getElem_cons_succ]
      refine wpAnyH_take (i := 36) (v := .bool true) rfl (by kernel_rfl) (by kernel_rfl) (by kernel_rfl) (fun _ _ _ h => h) (Or.inl ⟨by rfl, ?hy36c1⟩) (by assumption) ?rest36c1
      case hy36c1 =>
        intro w' hSw
        (try dsimp only at hSw)
        obtain ⟨s0, s1, s2, s3⟩ := hSw
        first | (go_simp; done) | (go_simp; simp [n20, n21, n35]; done) | (go_simp; simpa using n20) | (go_simp; simpa using n35)
      try simp only [Act.put, List.setIfInBounds_toArray, List.set_cons_zero, List.set_cons_succ, List.getElem_toArray, List.getElem_cons_zero, List.getElem_cons_succ]
      refine wpAnyH_take (i := 37) (v := .bool true) rfl (by kernel_rfl) (by kernel_rfl) (by kernel_rfl) (fun _ _ _ h => h) (Or.inl ⟨by rfl, ?hy37c1⟩) (by assumption) ?rest37c1
      case hy37c1 =>
        intro w' hSw
        (try dsimp only at hSw)
        obtain ⟨s0, s1, s2, s3⟩ := hSw
        first | (go_simp; done) | (go_simp; simp [n20, n21, n35]; done) | (go_simp; simpa using n20) | (go_simp; simpa using n35)
      try simp only [Act.put, List.setIfInBounds_toArray, List.set_cons_zero, List.set_cons_succ, List.getElem_toArray, List.getElem_cons_zero, List.getElem_cons_succ]
      refine wpAnyH_take (i := 38) (v := .int .i64 op) rfl (by kernel_rfl) (by kernel_rfl) (by kernel_rfl) (fun _ _ _ h => h) (Or.inl ⟨by rfl, ?hy38c1⟩) (by assumption) ?rest38c1
      case hy38c1 =>
        intro w' hSw
        (try dsimp only at hSw)
        obtain ⟨s0, s1, s2, s3⟩ := hSw
        first | (go_simp; done) | (go_simp; simp [n20, n21, n35]; done) | (go_simp; simpa using n20) | (go_simp; simpa using n35)
      try simp only [Act.put, List.setIfInBounds_toArray, List.set_cons_zero, List.set_cons_succ, List.getElem_toArray, List.getElem_cons_zero, List.getElem_cons_succ]
      refine wpAnyH_take (i := 39) (v := .bool false) rfl (by kernel_rfl) (by kernel_rfl) (by kernel_rfl) (fun _ _ _ h => h) (Or.inl ⟨by rfl, ?hy39c1⟩) (by assumption) ?rest39c1
      case hy39c1 =>
        intro w' hSw
        (try dsimp only at hSw)
        obtain ⟨s0, s1, s2, s3⟩ := hSw
        first | (go_simp; done) | (go_simp; simp [n20, n21, n35]; done) | (go_simp; simpa using n20) | (go_simp; simpa using n35)
      try simp only [Act.put, List.setIfInBounds_toArray, List.set_cons_zero, List.set_cons_succ, List.getElem_toArray, List.getElem_cons_zero, List.getElem_cons_succ]
      refine wpAnyH_take (i := 40) (v := .bool false) rfl (by kernel_rfl) (by kernel_rfl) (by kernel_rfl) (fun _ _ _ h => h) (Or.inl ⟨by rfl, ?hy40c1⟩) (by assumption) ?rest40c1
      case hy40c1 =>
        intro w' hSw
        (try dsimp only at hSw)
        obtain ⟨s0, s1, s2, s3⟩ := hSw
        first | (go_simp; done) | (go_simp; simp [n20, n21, n35]; done) | (go_simp; simpa using n20) | (go_simp; simpa using n35)
      try simp only [Act.put, List.setIfInBounds_toArray, List.set_cons_zero, List.set_cons_succ, List.getElem_toArray, List.getElem_cons_zero, List.getElem_cons_succ]
      refine wpAnyH_take (i := 41) (v := .bool false) rfl (by kernel_rfl) (by kernel_rfl) (by kernel_rfl) (fun _ _ _ h => h) (Or.inl ⟨by rfl, ?hy41c1⟩) (by assumption) ?rest41c1
      case hy41c1 =>
        intro w' hSw
        (try dsimp only at hSw)
        obtain ⟨s0, s1, s2, s3⟩ := hSw
        first | (go_simp; done) | (go_simp; simp [n20, n21, n35]; done) | (go_simp; simpa using n20) | (go_simp; simpa using n35)
      try simp only [Act.put, List.setIfInBounds_toArray, List.set_cons_zero, List.set_cons_succ, List.getElem_toArray, List.getElem_cons_zero, List.getElem_cons_succ]
      refine wpAnyH_take (i := 42) (v := undef) rfl (by kernel_rfl) (by kernel_rfl) (by kernel_rfl) (fun _ _ _ h => h) (Or.inr ⟨by rfl, rfl⟩) (by assumption) ?_
      try simp only [Act.put, List.setIfInBounds_toArray, List.set_cons_zero, List.set_cons_succ, List.getElem_toArray, List.getElem_cons_zero, List.getElem_cons_succ]
      refine wpAnyH_take (i := 43) (v := undef) rfl (by kernel_rfl) (by kernel_rfl) (by kernel_rfl) (fun _ _ _ h => h) (Or.inr ⟨by rfl, rfl⟩) (by assumption) ?_
      try simp only [Act.put, List.setIfInBounds_toArray, List.set_cons_zero, List.set_cons_succ, List.getElem_toArray, List.getElem_cons_zero, List.getElem_cons_succ]
      refine wpAnyH_take (i := 44) (v := .bool false) rfl (by kernel_rfl) (by kernel_rfl) (by kernel_rfl) (fun _ _ _ h => h) (Or.inl ⟨by rfl, ?hy44c1⟩) (by assumption) ?rest44c1
      case hy44c1 =>
        intro w' hSw
        (try dsimp only at hSw)
        obtain ⟨s0, s1, s2, s3⟩ := hSw
        first | (go_simp; done) | (go_simp; simp [n20, n21, n35]; done) | (go_simp; simpa using n20) | (go_simp; simpa using n35)
      try simp only [Act.put, List.setIfInBounds_toArray, List.set_cons_zero, List.set_cons_succ, List.getElem_toArray, List.getElem_cons_zero, List.getElem_cons_succ]
      refine wpAnyH_take (i := 45) (v := .bool false) rfl (by kernel_rfl) (by kernel_rfl) (by kernel_rfl) (fun _ _ _ h => h) (Or.inl ⟨by rfl, ?hy45c1⟩) (by assumption) ?rest45c1
      case hy45c1 =>
        intro w' hSw
        (try dsimp only at hSw)
        obtain ⟨s0, s1, s2, s3⟩ := hSw
        first | (go_simp; done) | (go_simp; simp [n20, n21, n35]; done) | (go_simp; simpa using n20) | (go_simp; simpa using n35)
      try simp only [Act.put, List.setIfInBounds_toArray, List.set_cons_zero, List.set_cons_succ, List.getElem_toArray, List.getElem_cons_zero, List.getElem_cons_succ]
      refine wpAnyH_take (i := 46) (v := .bool false) rfl (by kernel_rfl) (by kernel_rfl) (by kernel_rfl) (fun _ _ _ h => h) (Or.inl ⟨by rfl, ?hy46c1⟩) (by assumption) ?rest46c1
      case hy46c1 =>
        intro w' hSw
        (try dsimp only at hSw)
        obtain ⟨s0, s1, s2, s3⟩ := hSw
        first | (go_simp; done) | (go_simp; simp [n20, n21, n35]; done) | (go_simp; simpa using n20) | (go_simp; simpa using n35)
      try simp only [Act.put, List.setIfInBounds_toArray, List.set_cons_zero, List.set_cons_succ, List.getElem_toArray, List.getElem_cons_zero, List.getElem_cons_succ]
      refine wpAnyH_done (by kernel_rfl) ?_ _
      go_wp2_with fail
      go_meet
      exact ⟨rfl, Hf6.out⟩
    · obtain rfl := hb (.inr (.inl n21))
      clear hb
      rw [n20, n21, n35]
      simp only [Bool.or_true, Bool.true_or, Bool.or_false, Bool.false_or, Bool.not_true, Bool.not_false, Bool.and_true, Bool.and_false, Bool.true_and, Bool.false_and]
      refine wp_region_held_drew (S := fun w' => w'.cell? ⟨bb, 0, none⟩ = some (.string ⟨rw_.toArray⟩) ∧ w'.cell? ⟨bb, 1, none⟩ = some (.int .i64 ra) ∧ w'.cell? ⟨bb, 2, none⟩ = some (.int .i64 rt) ∧ w'.cell? ⟨bb, 3, none⟩ = some (.int .i64 rl)) (by kernel_rfl) (blk4_cells Hb4.out.drew) (fun hHeld => ?_)
      refine wpAnyH_take (i := 0) (v := .int .i64 op) rfl (by kernel_rfl) (by kernel_rfl) (by kernel_rfl) (fun _ _ _ h => h) (Or.inl ⟨by rfl, ?hy0c2⟩) (by assumption) ?rest0c2
      case hy0c2 =>
        intro w' hSw
        (try dsimp only at hSw)
        obtain ⟨s0, s1, s2, s3⟩ := hSw
        first | (go_simp; done) | (go_simp; simp [n20, n21, n35]; done) | (go_simp; simpa using n20) | (go_simp; simpa using n35)
      try simp only [Act.put, List.setIfInBounds_toArray, List.set_cons_zero, List.set_cons_succ, List.getElem_toArray, List.getElem_cons_zero, List.getElem_cons_succ]
      refine wpAnyH_take (i := 2) (v := .pointer (some ⟨bb, 0, none⟩)) rfl (by kernel_rfl) (by kernel_rfl) (by kernel_rfl) (fun _ _ _ h => h) (Or.inl ⟨by rfl, ?hy2c2⟩) (by assumption) ?rest2c2
      case hy2c2 =>
        intro w' hSw
        (try dsimp only at hSw)
        obtain ⟨s0, s1, s2, s3⟩ := hSw
        first | (go_simp; done) | (go_simp; simp [n20, n21, n35]; done) | (go_simp; simpa using n20) | (go_simp; simpa using n35)
      try simp only [Act.put, List.setIfInBounds_toArray, List.set_cons_zero, List.set_cons_succ, List.getElem_toArray, List.getElem_cons_zero, List.getElem_cons_succ]
      refine wpAnyH_take (i := 3) (v := .string ⟨rw_.toArray⟩) rfl (by kernel_rfl) (by kernel_rfl) (by kernel_rfl) (fun _ _ _ h => h) (Or.inl ⟨by rfl, ?hy3c2⟩) (by assumption) ?rest3c2
      case hy3c2 =>
        intro w' hSw
        (try dsimp only at hSw)
        obtain ⟨s0, s1, s2, s3⟩ := hSw
        first | (go_simp; done) | (go_simp; simp [n20, n21, n35]; done) | (go_simp; simpa using n20) | (go_simp; simpa using n35)
      try simp only [Act.put, List.setIfInBounds_toArray, List.set_cons_zero, List.set_cons_succ, List.getElem_toArray, List.getElem_cons_zero, List.getElem_cons_succ]
      refine wpAnyH_ready (rs := [1]) (by kernel_rfl) (by simp) ?_
      refine AllReadyH.cons rfl (fun K hK => ?_) ?_
      rotate_left
      · exact AllReadyH.nil
      go_simp
      go_at_call 12
      refine (HN.out _ Hf4.out.drew).mono ?_
      rintro e w5 ⟨rfl, hf5⟩
      have Hb5 := hide (Hb4.out.drew.fr0 hf5)
      have Hf5 := hide (Hf4.out.drew.trans hf5)
      clear hf5
      go_wp2_with fail
      refine hK.out _ _ (blk4_cells Hb5.out) (fun hHeld5 => ?_)
      clear hHeld
      clear hK K
      try simp only [Act.put, List.setIfInBounds_toArray, List.set_cons_zero, List.set_cons_succ, List.getElem_toArray, List.getElem_cons_zero, List.getElem_cons_succ]
      refine wpAnyH_take (i := 4) (v := .bool false) rfl (by kernel_rfl) (by kernel_rfl) (by kernel_rfl) (fun _ _ _ h => h) (Or.inl ⟨by rfl, ?hy4c2⟩) (by assumption) ?rest4c2
      case hy4c2 =>
        intro w' hSw
        (try dsimp only at hSw)
        obtain ⟨s0, s1, s2, s3⟩ := hSw
        first | (go_simp; done) | (go_simp; simp [n20, n21, n35]; done) | (go_simp; simpa using n20) | (go_simp; simpa using n35)
      try simp only [Act.put, List.setIfInBounds_toArray, List.set_cons_zero, List.set_cons_succ, List.getElem_toArray, List.getElem_cons_zero, List.getElem_cons_succ]
      refine wpAnyH_take (i := 5) (v := .bool false) rfl (by kernel_rfl) (by kernel_rfl) (by kernel_rfl) (fun _ _ _ h => h) (Or.inl ⟨by rfl, ?hy5c2⟩) (by assumption) ?rest5c2
      case hy5c2 =>
        intro w' hSw
        (try dsimp only at hSw)
        obtain ⟨s0, s1, s2, s3⟩ := hSw
        first | (go_simp; done) | (go_simp; simp [n20, n21, n35]; done) | (go_simp; simpa using n20) | (go_simp; simpa using n35)
      try simp only [Act.put, List.setIfInBounds_toArray, List.set_cons_zero, List.set_cons_succ, List.getElem_toArray, List.getElem_cons_zero, List.getElem_cons_succ]
      refine wpAnyH_take (i := 6) (v := .int .i64 op) rfl (by kernel_rfl) (by kernel_rfl) (by kernel_rfl) (fun _ _ _ h => h) (Or.inl ⟨by rfl, ?hy6c2⟩) (by assumption) ?rest6c2
      case hy6c2 =>
        intro w' hSw
        (try dsimp only at hSw)
        obtain ⟨s0, s1, s2, s3⟩ := hSw
        first | (go_simp; done) | (go_simp; simp [n20, n21, n35]; done) | (go_simp; simpa using n20) | (go_simp; simpa using n35)
      try simp only [Act.put, List.setIfInBounds_toArray, List.set_cons_zero, List.set_cons_succ, List.getElem_toArray, List.getElem_cons_zero, List.getElem_cons_succ]
      refine wpAnyH_take (i := 8) (v := .pointer (some ⟨bb, 1, none⟩)) rfl (by kernel_rfl) (by kernel_rfl) (by kernel_rfl) (fun _ _ _ h => h) (Or.inl ⟨by rfl, ?hy8c2⟩) (by assumption) ?rest8c2
      case hy8c2 =>
        intro w' hSw
        (try dsimp only at hSw)
        obtain ⟨s0, s1, s2, s3⟩ := hSw
        first | (go_simp; done) | (go_simp; simp [n20, n21, n35]; done) | (go_simp; simpa using n20) | (go_simp; simpa using n35)
      try simp only [Act.put, List.setIfInBounds_toArray, List.set_cons_zero, List.set_cons_succ, List.getElem_toArray, List.getElem_cons_zero, List.getElem_cons_succ]
      refine wpAnyH_take (i := 9) (v := .int .i64 ra) rfl (by kernel_rfl) (by kernel_rfl) (by kernel_rfl) (fun _ _ _ h => h) (Or.inl ⟨by rfl, ?hy9c2⟩) (by assumption) ?rest9c2
      case hy9c2 =>
        intro w' hSw
        (try dsimp only at hSw)
        obtain ⟨s0, s1, s2, s3⟩ := hSw
        first | (go_simp; done) | (go_simp; simp [n20, n21, n35]; done) | (go_simp; simpa using n20) | (go_simp; simpa using n35)
      try simp only [Act.put, List.setIfInBounds_toArray, List.set_cons_zero, List.set_cons_succ, List.getElem_toArray, List.getElem_cons_zero, List.getElem_cons_succ]
      refine wpAnyH_ready (rs := [7]) (by kernel_rfl) (by simp) ?_
      refine AllReadyH.cons rfl (fun K hK => ?_) ?_
      rotate_left
      · exact AllReadyH.nil
      go_simp
      go_at_call 13
      refine (HG.out _ Hf5.out).mono ?_
      rintro e w6 ⟨rfl, hf6⟩
      have Hb6 := hide (Hb5.out.fr0 hf6)
      have Hf6 := hide (Hf5.out.trans hf6)
      clear hf6
      go_wp2_with fail
      refine hK.out _ _ (blk4_cells Hb6.out) (fun hHeld6 => ?_)
      clear hHeld5
      clear hK K
      try simp only [Act.put, List.setIfInBounds_toArray, List.set_cons_zero, List.set_cons_succ, List.getElem_toArray, List.getElem_cons_zero, List.getElem_cons_succ]
      refine wpAnyH_take (i := 10) (v := .bool false) rfl (by kernel_rfl) (by kernel_rfl) (by kernel_rfl) (fun _ _ _ h => h) (Or.inl ⟨by rfl, ?hy10c2⟩) (by assumption) ?rest10c2
      case hy10c2 =>
        intro w' hSw
        (try dsimp only at hSw)
        obtain ⟨s0, s1, s2, s3⟩ := hSw
        first | (go_simp; done) | (go_simp; simp [n20, n21, n35]; done) | (go_simp; simpa using n20) | (go_simp; simpa using n35)
      try simp only [Act.put, List.setIfInBounds_toArray, List.set_cons_zero, List.set_cons_succ, List.getElem_toArray, List.getElem_cons_zero, List.getElem_cons_succ]
      refine wpAnyH_take (i := 11) (v := .bool false) rfl (by kernel_rfl) (by kernel_rfl) (by kernel_rfl) (fun _ _ _ h => h) (Or.inl ⟨by rfl, ?hy11c2⟩) (by assumption) ?rest11c2
      case hy11c2 =>
        intro w' hSw
        (try dsimp only at hSw)
        obtain ⟨s0, s1, s2, s3⟩ := hSw
        first | (go_simp; done) | (go_simp; simp [n20, n21, n35]; done) | (go_simp; simpa using n20) | (go_simp; simpa using n35)
      try simp only [Act.put, List.setIfInBounds_toArray, List.set_cons_zero, List.set_cons_succ, List.getElem_toArray, List.getElem_cons_zero, List.getElem_cons_succ]
      refine wpAnyH_take (i := 12) (v := .bool false) rfl (by kernel_rfl) (by kernel_rfl) (by kernel_rfl) (fun _ _ _ h => h) (Or.inl ⟨by rfl, ?hy12c2⟩) (by assumption) ?rest12c2
      case hy12c2 =>
        intro w' hSw
        (try dsimp only at hSw)
        obtain ⟨s0, s1, s2, s3⟩ := hSw
        first | (go_simp; done) | (go_simp; simp [n20, n21, n35]; done) | (go_simp; simpa using n20) | (go_simp; simpa using n35)
      try simp only [Act.put, List.setIfInBounds_toArray, List.set_cons_zero, List.set_cons_succ, List.getElem_toArray, List.getElem_cons_zero, List.getElem_cons_succ]
      refine wpAnyH_take (i := 13) (v := .int .i64 rt) rfl (by kernel_rfl) (by kernel_rfl) (by kernel_rfl) (fun _ _ _ h => h) (Or.inl ⟨by rfl, ?hy13c2⟩) (by assumption) ?rest13c2
      case hy13c2 =>
        intro w' hSw
        (try dsimp only at hSw)
        obtain ⟨s0, s1, s2, s3⟩ := hSw
        first | (go_simp; done) | (go_simp; simp [n20, n21, n35]; done) | (go_simp; simpa using n20) | (go_simp; simpa using n35)
      try simp only [Act.put, List.setIfInBounds_toArray, List.set_cons_zero, List.set_cons_succ, List.getElem_toArray, List.getElem_cons_zero, List.getElem_cons_succ]
      refine wpAnyH_take (i := 14) (v := .pointer (some ⟨bb, 2, none⟩)) rfl (by kernel_rfl) (by kernel_rfl) (by kernel_rfl) (fun _ _ _ h => h) (Or.inl ⟨by rfl, ?hy14c2⟩) (by assumption) ?rest14c2
      case hy14c2 =>
        intro w' hSw
        (try dsimp only at hSw)
        obtain ⟨s0, s1, s2, s3⟩ := hSw
        first | (go_simp; done) | (go_simp; simp [n20, n21, n35]; done) | (go_simp; simpa using n20) | (go_simp; simpa using n35)
      try simp only [Act.put, List.setIfInBounds_toArray, List.set_cons_zero, List.set_cons_succ, List.getElem_toArray, List.getElem_cons_zero, List.getElem_cons_succ]
      refine wpAnyH_take (i := 15) (v := .int .i64 rt) rfl (by kernel_rfl) (by kernel_rfl) (by kernel_rfl) (fun _ _ _ h => h) (Or.inl ⟨by rfl, ?hy15c2⟩) (by assumption) ?rest15c2
      case hy15c2 =>
        intro w' hSw
        (try dsimp only at hSw)
        obtain ⟨s0, s1, s2, s3⟩ := hSw
        first | (go_simp; done) | (go_simp; simp [n20, n21, n35]; done) | (go_simp; simpa using n20) | (go_simp; simpa using n35)
      try simp only [Act.put, List.setIfInBounds_toArray, List.set_cons_zero, List.set_cons_succ, List.getElem_toArray, List.getElem_cons_zero, List.getElem_cons_succ]
      refine wpAnyH_take (i := 16) (v := .bool false) rfl (by kernel_rfl) (by kernel_rfl) (by kernel_rfl) (fun _ _ _ h => h) (Or.inl ⟨by rfl, ?hy16c2⟩) (by assumption) ?rest16c2
      case hy16c2 =>
        intro w' hSw
        (try dsimp only at hSw)
        obtain ⟨s0, s1, s2, s3⟩ := hSw
        first | (go_simp; done) | (go_simp; simp [n20, n21, n35]; done) | (go_simp; simpa using n20) | (go_simp; simpa using n35)
      try simp only [Act.put, List.setIfInBounds_toArray, List.set_cons_zero, List.set_cons_succ, List.getElem_toArray, List.getElem_cons_zero, List.getElem_cons_succ]
      refine wpAnyH_take (i := 17) (v := .bool false) rfl (by kernel_rfl) (by kernel_rfl) (by kernel_rfl) (fun _ _ _ h => h) (Or.inl ⟨by rfl, ?hy17c2⟩) (by assumption) ?rest17c2
      case hy17c2 =>
        intro w' hSw
        (try dsimp only at hSw)
        obtain ⟨s0, s1, s2, s3⟩ := hSw
        first | (go_simp; done) | (go_simp; simp [n20, n21, n35]; done) | (go_simp; simpa using n20) | (go_simp; simpa using n35)
      try simp only [Act.put, List.setIfInBounds_toArray, List.set_cons_zero, List.set_cons_succ, List.getElem_toArray, List.getElem_cons_zero, List.getElem_cons_succ]
      refine wpAnyH_take (i := 18) (v := .bool false) rfl (by kernel_rfl) (by kernel_rfl) (by kernel_rfl) (fun _ _ _ h => h) (Or.inl ⟨by rfl, ?hy18c2⟩) (by assumption) ?rest18c2
      case hy18c2 =>
        intro w' hSw
        (try dsimp only at hSw)
        obtain ⟨s0, s1, s2, s3⟩ := hSw
        first | (go_simp; done) | (go_simp; simp [n20, n21, n35]; done) | (go_simp; simpa using n20) | (go_simp; simpa using n35)
      try simp only [Act.put, List.setIfInBounds_toArray, List.set_cons_zero, List.set_cons_succ, List.getElem_toArray, List.getElem_cons_zero, List.getElem_cons_succ]
      refine wpAnyH_take (i := 19) (v := .int .i64 rl) rfl (by kernel_rfl) (by kernel_rfl) (by kernel_rfl) (fun _ _ _ h => h) (Or.inl ⟨by rfl, ?hy19c2⟩) (by assumption) ?rest19c2
      case hy19c2 =>
        intro w' hSw
        (try dsimp only at hSw)
        obtain ⟨s0, s1, s2, s3⟩ := hSw
        first | (go_simp; done) | (go_simp; simp [n20, n21, n35]; done) | (go_simp; simpa using n20) | (go_simp; simpa using n35)
      try simp only [Act.put, List.setIfInBounds_toArray, List.set_cons_zero, List.set_cons_succ, List.getElem_toArray, List.getElem_cons_zero, List.getElem_cons_succ]
      refine wpAnyH_take (i := 20) (v := .pointer (some ⟨bb, 3, none⟩)) rfl (by kernel_rfl) (by kernel_rfl) (by kernel_rfl) (fun _ _ _ h => h) (Or.inl ⟨by rfl, ?hy20c2⟩) (by assumption) ?rest20c2
      case hy20c2 =>
        intro w' hSw
        (try dsimp only at hSw)
        obtain ⟨s0, s1, s2, s3⟩ := hSw
        first | (go_simp; done) | (go_simp; simp [n20, n21, n35]; done) | (go_simp; simpa using n20) | (go_simp; simpa using n35)
      try simp only [Act.put, List.setIfInBounds_toArray, List.set_cons_zero, List.set_cons_succ, List.getElem_toArray, List.getElem_cons_zero, List.getElem_cons_succ]
      refine wpAnyH_take (i := 21) (v := .int .i64 rl) rfl (by kernel_rfl) (by kernel_rfl) (by kernel_rfl) (fun _ _ _ h => h) (Or.inl ⟨by rfl, ?hy21c2⟩) (by assumption) ?rest21c2
      case hy21c2 =>
        intro w' hSw
        (try dsimp only at hSw)
        obtain ⟨s0, s1, s2, s3⟩ := hSw
        first | (go_simp; done) | (go_simp; simp [n20, n21, n35]; done) | (go_simp; simpa using n20) | (go_simp; simpa using n35)
      try simp only [Act.put, List.setIfInBounds_toArray, List.set_cons_zero, List.set_cons_succ, List.getElem_toArray, List.getElem_cons_zero, List.getElem_cons_succ]
      refine wpAnyH_take (i := 22) (v := .bool false) rfl (by kernel_rfl) (by kernel_rfl) (by kernel_rfl) (fun _ _ _ h => h) (Or.inl ⟨by rfl, ?hy22c2⟩) (by assumption) ?rest22c2
      case hy22c2 =>
        intro w' hSw
        (try dsimp only at hSw)
        obtain ⟨s0, s1, s2, s3⟩ := hSw
        first | (go_simp; done) | (go_simp; simp [n20, n21, n35]; done) | (go_simp; simpa using n20) | (go_simp; simpa using n35)
      try simp only [Act.put, List.setIfInBounds_toArray, List.set_cons_zero, List.set_cons_succ, List.getElem_toArray, List.getElem_cons_zero, List.getElem_cons_succ]
      refine wpAnyH_take (i := 23) (v := .bool false) rfl (by kernel_rfl) (by kernel_rfl) (by kernel_rfl) (fun _ _ _ h => h) (Or.inl ⟨by rfl, ?hy23c2⟩) (by assumption) ?rest23c2
      case hy23c2 =>
        intro w' hSw
        (try dsimp only at hSw)
        obtain ⟨s0, s1, s2, s3⟩ := hSw
        first | (go_simp; done) | (go_simp; simp [n20, n21, n35]; done) | (go_simp; simpa using n20) | (go_simp; simpa using n35)
      try simp only [Act.put, List.setIfInBounds_toArray, List.set_cons_zero, List.set_cons_succ, List.getElem_toArray, List.getElem_cons_zero, List.getElem_cons_succ]
      refine wpAnyH_take (i := 24) (v := .bool false) rfl (by kernel_rfl) (by kernel_rfl) (by kernel_rfl) (fun _ _ _ h => h) (Or.inl ⟨by rfl, ?hy24c2⟩) (by assumption) ?rest24c2
      case hy24c2 =>
        intro w' hSw
        (try dsimp only at hSw)
        obtain ⟨s0, s1, s2, s3⟩ := hSw
        first | (go_simp; done) | (go_simp; simp [n20, n21, n35]; done) | (go_simp; simpa using n20) | (go_simp; simpa using n35)
      try simp only [Act.put, List.setIfInBounds_toArray, List.set_cons_zero, List.set_cons_succ, List.getElem_toArray, List.getElem_cons_zero, List.getElem_cons_succ]
      refine wpAnyH_take (i := 25) (v := .bool true) rfl (by kernel_rfl) (by kernel_rfl) (by kernel_rfl) (fun _ _ _ h => h) (Or.inl ⟨by rfl, ?hy25c2⟩) (by assumption) ?rest25c2
      case hy25c2 =>
        intro w' hSw
        (try dsimp only at hSw)
        obtain ⟨s0, s1, s2, s3⟩ := hSw
        first | (go_simp; done) | (go_simp; simp [n20, n21, n35]; done) | (go_simp; simpa using n20) | (go_simp; simpa using n35)
      try simp only [Act.put, List.setIfInBounds_toArray, List.set_cons_zero, List.set_cons_succ, List.getElem_toArray, List.getElem_cons_zero, List.getElem_cons_succ]
      refine wpAnyH_take (i := 26) (v := .int .i64 op) rfl (by kernel_rfl) (by kernel_rfl) (by kernel_rfl) (fun _ _ _ h => h) (Or.inl ⟨by rfl, ?hy26c2⟩) (by assumption) ?rest26c2
      case hy26c2 =>
        intro w' hSw
        (try dsimp only at hSw)
        obtain ⟨s0, s1, s2, s3⟩ := hSw
        first | (go_simp; done) | (go_simp; simp [n20, n21, n35]; done) | (go_simp; simpa using n20) | (go_simp; simpa using n35)
      try simp only [Act.put, List.setIfInBounds_toArray, List.set_cons_zero, List.set_cons_succ, List.getElem_toArray, List.getElem_cons_zero, List.getElem_cons_succ]
      refine wpAnyH_take (i := 27) (v := .bool false) rfl (by kernel_rfl) (by kernel_rfl) (by kernel_rfl) (fun _ _ _ h => h) (Or.inl ⟨by rfl, ?hy27c2⟩) (by assumption) ?rest27c2
      case hy27c2 =>
        intro w' hSw
        (try dsimp only at hSw)
        obtain ⟨s0, s1, s2, s3⟩ := hSw
        first | (go_simp; done) | (go_simp; simp [n20, n21, n35]; done) | (go_simp; simpa using n20) | (go_simp; simpa using n35)
      try simp only [Act.put, List.setIfInBounds_toArray, List.set_cons_zero, List.set_cons_succ, List.getElem_toArray, List.getElem_cons_zero, List.getElem_cons_succ]
      refine wpAnyH_take (i := 28) (v := .bool false) rfl (by kernel_rfl) (by kernel_rfl) (by kernel_rfl) (fun _ _ _ h => h) (Or.inl ⟨by rfl, ?hy28c2⟩) (by assumption) ?rest28c2
      case hy28c2 =>
        intro w' hSw
        (try dsimp only at hSw)
        obtain ⟨s0, s1, s2, s3⟩ := hSw
        first | (go_simp; done) | (go_simp; simp [n20, n21, n35]; done) | (go_simp; simpa using n20) | (go_simp; simpa using n35)
      try simp only [Act.put, List.setIfInBounds_toArray, List.set_cons_zero, List.set_cons_succ, List.getElem_toArray, List.getElem_cons_zero, List.getElem_cons_succ]
      refine wpAnyH_take (i := 29) (v := .int .i64 op) rfl (by kernel_rfl) (by kernel_rfl) (by kernel_rfl) (fun _ _ _ h => h) (Or.inl ⟨by rfl, ?hy29c2⟩) (by assumption) ?rest29c2
      case hy29c2 =>
        intro w' hSw
        (try dsimp only at hSw)
        obtain ⟨s0, s1, s2, s3⟩ := hSw
        first | (go_simp; done) | (go_simp; simp [n20, n21, n35]; done) | (go_simp; simpa using n20) | (go_simp; simpa using n35)
      try simp only [Act.put, List.setIfInBounds_toArray, List.set_cons_zero, List.set_cons_succ, List.getElem_toArray, List.getElem_cons_zero, List.getElem_cons_succ]
      refine wpAnyH_take (i := 30) (v := .bool true) rfl (by kernel_rfl) (by kernel_rfl) (by kernel_rfl) (fun _ _ _ h => h) (Or.inl ⟨by rfl, ?hy30c2⟩) (by assumption) ?rest30c2
      case hy30c2 =>
        intro w' hSw
        (try dsimp only at hSw)
        obtain ⟨s0, s1, s2, s3⟩ := hSw
        first | (go_simp; done) | (go_simp; simp [n20, n21, n35]; done) | (go_simp; simpa using n20) | (go_simp; simpa using n35)
      try simp only [Act.put, List.setIfInBounds_toArray, List.set_cons_zero, List.set_cons_succ, List.getElem_toArray, List.getElem_cons_zero, List.getElem_cons_succ]
      refine wpAnyH_take (i := 31) (v := .bool true) rfl (by kernel_rfl) (by kernel_rfl) (by kernel_rfl) (fun _ _ _ h => h) (Or.inl ⟨by rfl, ?hy31c2⟩) (by assumption) ?rest31c2
      case hy31c2 =>
        intro w' hSw
        (try dsimp only at hSw)
        obtain ⟨s0, s1, s2, s3⟩ := hSw
        first | (go_simp; done) | (go_simp; simp [n20, n21, n35]; done) | (go_simp; simpa using n20) | (go_simp; simpa using n35)
      try simp only [Act.put, List.setIfInBounds_toArray, List.set_cons_zero, List.set_cons_succ, List.getElem_toArray, List.getElem_cons_zero, List.getElem_cons_succ]
      refine wpAnyH_take (i := 32) (v := .bool false) rfl (by kernel_rfl) (by kernel_rfl) (by kernel_rfl) (fun _ _ _ h => h) (Or.inl ⟨by rfl, ?hy32c2⟩) (by assumption) ?rest32c2
      case hy32c2 =>
        intro w' hSw
        (try dsimp only at hSw)
        obtain ⟨s0, s1, s2, s3⟩ := hSw
        first | (go_simp; done) | (go_simp; simp [n20, n21, n35]; done) | (go_simp; simpa using n20) | (go_simp; simpa using n35)
      try simp only [Act.put, List.setIfInBounds_toArray, List.set_cons_zero, List.set_cons_succ, List.getElem_toArray, List.getElem_cons_zero, List.getElem_cons_succ]
      refine wpAnyH_take (i := 33) (v := .bool false) rfl (by kernel_rfl) (by kernel_rfl) (by kernel_rfl) (fun _ _ _ h => h) (Or.inl ⟨by rfl, ?hy33c2⟩) (by assumption) ?rest33c2
      case hy33c2 =>
        intro w' hSw
        (try dsimp only at hSw)
        obtain ⟨s0, s1, s2, s3⟩ := hSw
        first | (go_simp; done) | (go_simp; simp [n20, n21, n35]; done) | (go_simp; simpa using n20) | (go_simp; simpa using n35)
      try simp only [Act.put, List.setIfInBounds_toArray, List.set_cons_zero, List.set_cons_succ, List.getElem_toArray, List.getElem_cons_zero, List.getElem_cons_succ]
      refine wpAnyH_take (i := 34) (v := .bool false) rfl (by kernel_rfl) (by kernel_rfl) (by kernel_rfl) (fun _ _ _ h => h) (Or.inl ⟨by rfl, ?hy34c2⟩) (by assumption) ?rest34c2
      case hy34c2 =>
        intro w' hSw
        (try dsimp only at hSw)
        obtain ⟨s0, s1, s2, s3⟩ := hSw
        first | (go_simp; done) | (go_simp; simp [n20, n21, n35]; done) | (go_simp; simpa using n20) | (go_simp; simpa using n35)
      try simp only [Act.put, List.setIfInBounds_toArray, List.set_cons_zero, List.set_cons_succ, List.getElem_toArray, List.getElem_cons_zero, List.getElem_cons_succ]
      refine wpAnyH_take (i := 35) (v := .bool true) rfl (by kernel_rfl) (by kernel_rfl) (by kernel_rfl) (fun _ _ _ h => h) (Or.inl ⟨by rfl, ?hy35c2⟩) (by assumption) ?rest35c2
      case hy35c2 =>
        intro w' hSw
        (try dsimp only at hSw)
        obtain ⟨s0, s1, s2, s3⟩ := hSw
        first | (go_simp; done) | (go_simp; simp [n20, n21, n35]; done) | (go_simp; simpa using n20) | (go_simp; simpa using n35)
      try simp only [Act.put, List.setIfInBounds_toArray, List.set_cons_zero, List.set_cons_succ, List.getElem_toArray, List.getElem_cons_zero, List.getElem_cons_succ]
      refine wpAnyH_take (i := 36) (v := .bool true) rfl (by kernel_rfl) (by kernel_rfl) (by kernel_rfl) (fun _ _ _ h => h) (Or.inl ⟨by rfl, ?hy36c2⟩) (by assumption) ?rest36c2
      case hy36c2 =>
        intro w' hSw
        (try dsimp only at hSw)
        obtain ⟨s0, s1, s2, s3⟩ := hSw
        first | (go_simp; done) | (go_simp; simp [n20, n21, n35]; done) | (go_simp; simpa using n20) | (go_simp; simpa using n35)
      try simp only [Act.put, List.setIfInBounds_toArray, List.set_cons_zero, List.set_cons_succ, List.getElem_toArray, List.getElem_cons_zero, List.getElem_cons_succ]
      refine wpAnyH_take (i := 37) (v := .bool true) rfl (by kernel_rfl) (by kernel_rfl) (by kernel_rfl) (fun _ _ _ h => h) (Or.inl ⟨by rfl, ?hy37c2⟩) (by assumption) ?rest37c2
      case hy37c2 =>
        intro w' hSw
        (try dsimp only at hSw)
        obtain ⟨s0, s1, s2, s3⟩ := hSw
        first | (go_simp; done) | (go_simp; simp [n20, n21, n35]; done) | (go_simp; simpa using n20) | (go_simp; simpa using n35)
      try simp only [Act.put, List.setIfInBounds_toArray, List.set_cons_zero, List.set_cons_succ, List.getElem_toArray, List.getElem_cons_zero, List.getElem_cons_succ]
      refine wpAnyH_take (i := 38) (v := .int .i64 op) rfl (by kernel_rfl) (by kernel_rfl) (by kernel_rfl) (fun _ _ _ h => h) (Or.inl ⟨by rfl, ?hy38c2⟩) (by assumption) ?rest38c2
      case hy38c2 =>
        intro w' hSw
        (try dsimp only at hSw)
        obtain ⟨s0, s1, s2, s3⟩ := hSw
        first | (go_simp; done) | (go_simp; simp [n20, n21, n35]; done) | (go_simp; simpa using n20) | (go_simp; simpa using n35)
      try simp only [Act.put, List.setIfInBounds_toArray, List.set_cons_zero, List.set_cons_succ, List.getElem_toArray, List.getElem_cons_zero, List.getElem_cons_succ]
      refine wpAnyH_take (i := 39) (v := .bool true) rfl (by kernel_rfl) (by kernel_rfl) (by kernel_rfl) (fun _ _ _ h => h) (Or.inl ⟨by rfl, ?hy39c2⟩) (by assumption) ?rest39c2
      case hy39c2 =>
        intro w' hSw
        (try dsimp only at hSw)
        obtain ⟨s0, s1, s2, s3⟩ := hSw
        first | (go_simp; done) | (go_simp; simp [n20, n21, n35]; done) | (go_simp; simpa using n20) | (go_simp; simpa using n35)
      try simp only [Act.put, List.setIfInBounds_toArray, List.set_cons_zero, List.set_cons_succ, List.getElem_toArray, List.getElem_cons_zero, List.getElem_cons_succ]
      refine wpAnyH_take (i := 40) (v := .bool true) rfl (by kernel_rfl) (by kernel_rfl) (by kernel_rfl) (fun _ _ _ h => h) (Or.inl ⟨by rfl, ?hy40c2⟩) (by assumption) ?rest40c2
      case hy40c2 =>
        intro w' hSw
        (try dsimp only at hSw)
        obtain ⟨s0, s1, s2, s3⟩ := hSw
        first | (go_simp; done) | (go_simp; simp [n20, n21, n35]; done) | (go_simp; simpa using n20) | (go_simp; simpa using n35)
      try simp only [Act.put, List.setIfInBounds_toArray, List.set_cons_zero, List.set_cons_succ, List.getElem_toArray, List.getElem_cons_zero, List.getElem_cons_succ]
      refine wpAnyH_take (i := 41) (v := .bool true) rfl (by kernel_rfl) (by kernel_rfl) (by kernel_rfl) (fun _ _ _ h => h) (Or.inl ⟨by rfl, ?hy41c2⟩) (by assumption) ?rest41c2
      case hy41c2 =>
        intro w' hSw
        (try dsimp only at hSw)
        obtain ⟨s0, s1, s2, s3⟩ := hSw
        first | (go_simp; done) | (go_simp; simp [n20, n21, n35]; done) | (go_simp; simpa using n20) | (go_simp; simpa using n35)
      try simp only [Act.put, List.setIfInBounds_toArray, List.set_cons_zero, List.set_cons_succ, List.getElem_toArray, List.getElem_cons_zero, List.getElem_cons_succ]
      refine wpAnyH_take (i := 42) (v := .int .i64 op) rfl (by kernel_rfl) (by kernel_rfl) (by kernel_rfl) (fun _ _ _ h => h) (Or.inl ⟨by rfl, ?hy42c2⟩) (by assumption) ?rest42c2
      case hy42c2 =>
        intro w' hSw
        (try dsimp only at hSw)
        obtain ⟨s0, s1, s2, s3⟩ := hSw
        first | (go_simp; done) | (go_simp; simp [n20, n21, n35]; done) | (go_simp; simpa using n20) | (go_simp; simpa using n35)
      try simp only [Act.put, List.setIfInBounds_toArray, List.set_cons_zero, List.set_cons_succ, List.getElem_toArray, List.getElem_cons_zero, List.getElem_cons_succ]
      refine wpAnyH_take (i := 43) (v := .bool true) rfl (by kernel_rfl) (by kernel_rfl) (by kernel_rfl) (fun _ _ _ h => h) (Or.inl ⟨by rfl, ?hy43c2⟩) (by assumption) ?rest43c2
      case hy43c2 =>
        intro w' hSw
        (try dsimp only at hSw)
        obtain ⟨s0, s1, s2, s3⟩ := hSw
        first | (go_simp; done) | (go_simp; simp [n20, n21, n35]; done) | (go_simp; simpa using n20) | (go_simp; simpa using n35)
      try simp only [Act.put, List.setIfInBounds_toArray, List.set_cons_zero, List.set_cons_succ, List.getElem_toArray, List.getElem_cons_zero, List.getElem_cons_succ]
      refine wpAnyH_take (i := 44) (v := .bool true) rfl (by kernel_rfl) (by kernel_rfl) (by kernel_rfl) (fun _ _ _ h => h) (Or.inl ⟨by rfl, ?hy44c2⟩) (by assumption) ?rest44c2
      case hy44c2 =>
        intro w' hSw
        (try dsimp only at hSw)
        obtain ⟨s0, s1, s2, s3⟩ := hSw
        first | (go_simp; done) | (go_simp; simp [n20, n21, n35]; done) | (go_simp; simpa using n20) | (go_simp; simpa using n35)
      try simp only [Act.put, List.setIfInBounds_toArray, List.set_cons_zero, List.set_cons_succ, List.getElem_toArray, List.getElem_cons_zero, List.getElem_cons_succ]
      refine wpAnyH_take (i := 45) (v := .bool false) rfl (by kernel_rfl) (by kernel_rfl) (by kernel_rfl) (fun _ _ _ h => h) (Or.inl ⟨by rfl, ?hy45c2⟩) (by assumption) ?rest45c2
      case hy45c2 =>
        intro w' hSw
        (try dsimp only at hSw)
        obtain ⟨s0, s1, s2, s3⟩ := hSw
        first | (go_simp; done) | (go_simp; simp [n20, n21, n35]; done) | (go_simp; simpa using n20) | (go_simp; simpa using n35)
      try simp only [Act.put, List.setIfInBounds_toArray, List.set_cons_zero, List.set_cons_succ, List.getElem_toArray, List.getElem_cons_zero, List.getElem_cons_succ]
      refine wpAnyH_take (i := 46) (v := .bool false) rfl (by kernel_rfl) (by kernel_rfl) (by kernel_rfl) (fun _ _ _ h => h) (Or.inl ⟨by rfl, ?hy46c2⟩) (by assumption) ?rest46c2
      case hy46c2 =>
        intro w' hSw
        (try dsimp only at hSw)
        obtain ⟨s0, s1, s2, s3⟩ := hSw
        first | (go_simp; done) | (go_simp; simp [n20, n21, n35]; done) | (go_simp; simpa using n20) | (go_simp; simpa using n35)
      try simp only [Act.put, List.setIfInBounds_toArray, List.set_cons_zero, List.set_cons_succ, List.getElem_toArray, List.getElem_cons_zero, List.getElem_cons_succ]
      refine wpAnyH_done (by kernel_rfl) ?_ _
      go_wp2_with fail
      go_meet
      exact ⟨rfl, Hf6.out⟩
    · obtain rfl := hb (.inr (.inr n35))
      clear hb
      rw [n20, n21, n35]
      simp only [Bool.or_true, Bool.true_or, Bool.or_false, Bool.false_or, Bool.not_true, Bool.not_false, Bool.and_true, Bool.and_false, Bool.true_and, Bool.false_and]
      refine wp_region_held_drew (S := fun w' => w'.cell? ⟨bb, 0, none⟩ = some (.string ⟨rw_.toArray⟩) ∧ w'.cell? ⟨bb, 1, none⟩ = some (.int .i64 ra) ∧ w'.cell? ⟨bb, 2, none⟩ = some (.int .i64 rt) ∧ w'.cell? ⟨bb, 3, none⟩ = some (.int .i64 rl)) (by kernel_rfl) (blk4_cells Hb4.out.drew) (fun hHeld => ?_)
      refine wpAnyH_take (i := 0) (v := .int .i64 op) rfl (by kernel_rfl) (by kernel_rfl) (by kernel_rfl) (fun _ _ _ h => h) (Or.inl ⟨by rfl, ?hy0c3⟩) (by assumption) ?rest0c3
      case hy0c3 =>
        intro w' hSw
        (try dsimp only at hSw)
        obtain ⟨s0, s1, s2, s3⟩ := hSw
        first | (go_simp; done) | (go_simp; simp [n20, n21, n35]; done) | (go_simp; simpa using n20) | (go_simp; simpa using n35)
      try simp only [Act.put, List.setIfInBounds_toArray, List.set_cons_zero, List.set_cons_succ, List.getElem_toArray, List.getElem_cons_zero, List.getElem_cons_succ]
      refine wpAnyH_take (i := 2) (v := .pointer (some ⟨bb, 0, none⟩)) rfl (by kernel_rfl) (by kernel_rfl) (by kernel_rfl) (fun _ _ _ h => h) (Or.inl ⟨by rfl, ?hy2c3⟩) (by assumption) ?rest2c3
      case hy2c3 =>
        intro w' hSw
        (try dsimp only at hSw)
        obtain ⟨s0, s1, s2, s3⟩ := hSw
        first | (go_simp; done) | (go_simp; simp [n20, n21, n35]; done) | (go_simp; simpa using n20) | (go_simp; simpa using n35)
      try simp only [Act.put, List.setIfInBounds_toArray, List.set_cons_zero, List.set_cons_succ, List.getElem_toArray, List.getElem_cons_zero, List.getElem_cons_succ]
      refine wpAnyH_take (i := 3) (v := .string ⟨rw_.toArray⟩) rfl (by kernel_rfl) (by kernel_rfl) (by kernel_rfl) (fun _ _ _ h => h) (Or.inl ⟨by rfl, ?hy3c3⟩) (by assumption) ?rest3c3
      case hy3c3 =>
        intro w' hSw
        (try dsimp only at hSw)
        obtain ⟨s0, s1, s2, s3⟩ := hSw
        first | (go_simp; done) | (go_simp; simp [n20, n21, n35]; done) | (go_simp; simpa using n20) | (go_simp; simpa using n35)
      try simp only [Act.put, List.setIfInBounds_toArray, List.set_cons_zero, List.set_cons_succ, List.getElem_toArray, List.getElem_cons_zero, List.getElem_cons_succ]
      refine wpAnyH_ready (rs := [1]) (by kernel_rfl) (by simp) ?_
      refine AllReadyH.cons rfl (fun K hK => ?_) ?_
      rotate_left
      · exact AllReadyH.nil
      go_simp
      go_at_call 12
      refine (HN.out _ Hf4.out.drew).mono ?_
      rintro e w5 ⟨rfl, hf5⟩
      have Hb5 := hide (Hb4.out.drew.fr0 hf5)
      have Hf5 := hide (Hf4.out.drew.trans hf5)
      clear hf5
      go_wp2_with fail
      refine hK.out _ _ (blk4_cells Hb5.out) (fun hHeld5 => ?_)
      clear hHeld
      clear hK K
      try simp only [Act.put, List.setIfInBounds_toArray, List.set_cons_zero, List.set_cons_succ, List.getElem_toArray, List.getElem_cons_zero, List.getElem_cons_succ]
      refine wpAnyH_take (i := 4) (v := .bool false) rfl (by kernel_rfl) (by kernel_rfl) (by kernel_rfl) (fun _ _ _ h => h) (Or.inl ⟨by rfl, ?hy4c3⟩) (by assumption) ?rest4c3
      case hy4c3 =>
        intro w' hSw
        (try dsimp only at hSw)
        obtain ⟨s0, s1, s2, s3⟩ := hSw
        first | (go_simp; done) | (go_simp; simp [n20, n21, n35]; done) | (go_simp; simpa using n20) | (go_simp; simpa using n35)
      try simp only [Act.put, List.setIfInBounds_toArray, List.set_cons_zero, List.set_cons_succ, List.getElem_toArray, List.getElem_cons_zero, List.getElem_cons_succ]
      refine wpAnyH_take (i := 5) (v := .bool false) rfl (by kernel_rfl) (by kernel_rfl) (by kernel_rfl) (fun _ _ _ h => h) (Or.inl ⟨by rfl, ?hy5c3⟩) (by assumption) ?rest5c3
      case hy5c3 =>
        intro w' hSw
        (try dsimp only at hSw)
        obtain ⟨s0, s1, s2, s3⟩ := hSw
        first | (go_simp; done) | (go_simp; simp [n20, n21, n35]; done) | (go_simp; simpa using n20) | (go_simp; simpa using n35)
      try simp only [Act.put, List.setIfInBounds_toArray, List.set_cons_zero, List.set_cons_succ, List.getElem_toArray, List.getElem_cons_zero, List.getElem_cons_succ]
      refine wpAnyH_take (i := 6) (v := .int .i64 op) rfl (by kernel_rfl) (by kernel_rfl) (by kernel_rfl) (fun _ _ _ h => h) (Or.inl ⟨by rfl, ?hy6c3⟩) (by assumption) ?rest6c3
      case hy6c3 =>
        intro w' hSw
        (try dsimp only at hSw)
        obtain ⟨s0, s1, s2, s3⟩ := hSw
        first | (go_simp; done) | (go_simp; simp [n20, n21, n35]; done) | (go_simp; simpa using n20) | (go_simp; simpa using n35)
      try simp only [Act.put, List.setIfInBounds_toArray, List.set_cons_zero, List.set_cons_succ, List.getElem_toArray, List.getElem_cons_zero, List.getElem_cons_succ]
      refine wpAnyH_take (i := 8) (v := .pointer (some ⟨bb, 1, none⟩)) rfl (by kernel_rfl) (by kernel_rfl) (by kernel_rfl) (fun _ _ _ h => h) (Or.inl ⟨by rfl, ?hy8c3⟩) (by assumption) ?rest8c3
      case hy8c3 =>
        intro w' hSw
        (try dsimp only at hSw)
        obtain ⟨s0, s1, s2, s3⟩ := hSw
        first | (go_simp; done) | (go_simp; simp [n20, n21, n35]; done) | (go_simp; simpa using n20) | (go_simp; simpa using n35)
      try simp only [Act.put, List.setIfInBounds_toArray, List.set_cons_zero, List.set_cons_succ, List.getElem_toArray, List.getElem_cons_zero, List.getElem_cons_succ]
      refine wpAnyH_take (i := 9) (v := .int .i64 ra) rfl (by kernel_rfl) (by kernel_rfl) (by kernel_rfl) (fun _ _ _ h => h) (Or.inl ⟨by rfl, ?hy9c3⟩) (by assumption) ?rest9c3
      case hy9c3 =>
        intro w' hSw
        (try dsimp only at hSw)
        obtain ⟨s0, s1, s2, s3⟩ := hSw
        first | (go_simp; done) | (go_simp; simp [n20, n21, n35]; done) | (go_simp; simpa using n20) | (go_simp; simpa using n35)
      try simp only [Act.put, List.setIfInBounds_toArray, List.set_cons_zero, List.set_cons_succ, List.getElem_toArray, List.getElem_cons_zero, List.getElem_cons_succ]
      refine wpAnyH_ready (rs := [7]) (by kernel_rfl) (by simp) ?_
      refine AllReadyH.cons rfl (fun K hK => ?_) ?_
      rotate_left
      · exact AllReadyH.nil
      go_simp
      go_at_call 13
      refine (HG.out _ Hf5.out).mono ?_
      rintro e w6 ⟨rfl, hf6⟩
      have Hb6 := hide (Hb5.out.fr0 hf6)
      have Hf6 := hide (Hf5.out.trans hf6)
      clear hf6
      go_wp2_with fail
      refine hK.out _ _ (blk4_cells Hb6.out) (fun hHeld6 => ?_)
      clear hHeld5
      clear hK K
      try simp only [Act.put, List.setIfInBounds_toArray, List.set_cons_zero, List.set_cons_succ, List.getElem_toArray, List.getElem_cons_zero, List.getElem_cons_succ]
      refine wpAnyH_take (i := 10) (v := .bool false) rfl (by kernel_rfl) (by kernel_rfl) (by kernel_rfl) (fun _ _ _ h => h) (Or.inl ⟨by rfl, ?hy10c3⟩) (by assumption) ?rest10c3
      case hy10c3 =>
        intro w' hSw
        (try dsimp only at hSw)
        obtain ⟨s0, s1, s2, s3⟩ := hSw
        first | (go_simp; done) | (go_simp; simp [n20, n21, n35]; done) | (go_simp; simpa using n20) | (go_simp; simpa using n35)
      try simp only [Act.put, List.setIfInBounds_toArray, List.set_cons_zero, List.set_cons_succ, List.getElem_toArray, List.getElem_cons_zero, List.getElem_cons_succ]
      refine wpAnyH_take (i := 11) (v := .bool false) rfl (by kernel_rfl) (by kernel_rfl) (by kernel_rfl) (fun _ _ _ h => h) (Or.inl ⟨by rfl, ?hy11c3⟩) (by assumption) ?rest11c3
      case hy11c3 =>
        intro w' hSw
        (try dsimp only at hSw)
        obtain ⟨s0, s1, s2, s3⟩ := hSw
        first | (go_simp; done) | (go_simp; simp [n20, n21, n35]; done) | (go_simp; simpa using n20) | (go_simp; simpa using n35)
      try simp only [Act.put, List.setIfInBounds_toArray, List.set_cons_zero, List.set_cons_succ, List.getElem_toArray, List.getElem_cons_zero, List.getElem_cons_succ]
      refine wpAnyH_take (i := 12) (v := .bool false) rfl (by kernel_rfl) (by kernel_rfl) (by kernel_rfl) (fun _ _ _ h => h) (Or.inl ⟨by rfl, ?hy12c3⟩) (by assumption) ?rest12c3
      case hy12c3 =>
        intro w' hSw
        (try dsimp only at hSw)
        obtain ⟨s0, s1, s2, s3⟩ := hSw
        first | (go_simp; done) | (go_simp; simp [n20, n21, n35]; done) | (go_simp; simpa using n20) | (go_simp; simpa using n35)
      try simp only [Act.put, List.setIfInBounds_toArray, List.set_cons_zero, List.set_cons_succ, List.getElem_toArray, List.getElem_cons_zero, List.getElem_cons_succ]
      refine wpAnyH_take (i := 13) (v := .int .i64 rt) rfl (by kernel_rfl) (by kernel_rfl) (by kernel_rfl) (fun _ _ _ h => h) (Or.inl ⟨by rfl, ?hy13c3⟩) (by assumption) ?rest13c3
      case hy13c3 =>
        intro w' hSw
        (try dsimp only at hSw)
        obtain ⟨s0, s1, s2, s3⟩ := hSw
        first | (go_simp; done) | (go_simp; simp [n20, n21, n35]; done) | (go_simp; simpa using n20) | (go_simp; simpa using n35)
      try simp only [Act.put, List.setIfInBounds_toArray, List.set_cons_zero, List.set_cons_succ, List.getElem_toArray, List.getElem_cons_zero, List.getElem_cons_succ]
      refine wpAnyH_take (i := 14) (v := .pointer (some ⟨bb, 2, none⟩)) rfl (by kernel_rfl) (by kernel_rfl) (by kernel_rfl) (fun _ _ _ h => h) (Or.inl ⟨by rfl, ?hy14c3⟩) (by assumption) ?rest14c3
      case hy14c3 =>
        intro w' hSw
        (try dsimp only at hSw)
        obtain ⟨s0, s1, s2, s3⟩ := hSw
        first | (go_simp; done) | (go_simp; simp [n20, n21, n35]; done) | (go_simp; simpa using n20) | (go_simp; simpa using n35)
      try simp only [Act.put, List.setIfInBounds_toArray, List.set_cons_zero, List.set_cons_succ, List.getElem_toArray, List.getElem_cons_zero, List.getElem_cons_succ]
      refine wpAnyH_take (i := 15) (v := .int .i64 rt) rfl (by kernel_rfl) (by kernel_rfl) (by kernel_rfl) (fun _ _ _ h => h) (Or.inl ⟨by rfl, ?hy15c3⟩) (by assumption) ?rest15c3
      case hy15c3 =>
        intro w' hSw
        (try dsimp only at hSw)
        obtain ⟨s0, s1, s2, s3⟩ := hSw
        first | (go_simp; done) | (go_simp; simp [n20, n21, n35]; done) | (go_simp; simpa using n20) | (go_simp; simpa using n35)
      try simp only [Act.put, List.setIfInBounds_toArray, List.set_cons_zero, List.set_cons_succ, List.getElem_toArray, List.getElem_cons_zero, List.getElem_cons_succ]
      refine wpAnyH_take (i := 16) (v := .bool false) rfl (by kernel_rfl) (by kernel_rfl) (by kernel_rfl) (fun _ _ _ h => h) (Or.inl ⟨by rfl, ?hy16c3⟩) (by assumption) ?rest16c3
      case hy16c3 =>
        intro w' hSw
        (try dsimp only at hSw)
        obtain ⟨s0, s1, s2, s3⟩ := hSw
        first | (go_simp; done) | (go_simp; simp [n20, n21, n35]; done) | (go_simp; simpa using n20) | (go_simp; simpa using n35)
      try simp only [Act.put, List.setIfInBounds_toArray, List.set_cons_zero, List.set_cons_succ, List.getElem_toArray, List.getElem_cons_zero, List.getElem_cons_succ]
      refine wpAnyH_take (i := 17) (v := .bool false) rfl (by kernel_rfl) (by kernel_rfl) (by kernel_rfl) (fun _ _ _ h => h) (Or.inl ⟨by rfl, ?hy17c3⟩) (by assumption) ?rest17c3
      case hy17c3 =>
        intro w' hSw
        (try dsimp only at hSw)
        obtain ⟨s0, s1, s2, s3⟩ := hSw
        first | (go_simp; done) | (go_simp; simp [n20, n21, n35]; done) | (go_simp; simpa using n20) | (go_simp; simpa using n35)
      try simp only [Act.put, List.setIfInBounds_toArray, List.set_cons_zero, List.set_cons_succ, List.getElem_toArray, List.getElem_cons_zero, List.getElem_cons_succ]
      refine wpAnyH_take (i := 18) (v := .bool false) rfl (by kernel_rfl) (by kernel_rfl) (by kernel_rfl) (fun _ _ _ h => h) (Or.inl ⟨by rfl, ?hy18c3⟩) (by assumption) ?rest18c3
      case hy18c3 =>
        intro w' hSw
        (try dsimp only at hSw)
        obtain ⟨s0, s1, s2, s3⟩ := hSw
        first | (go_simp; done) | (go_simp; simp [n20, n21, n35]; done) | (go_simp; simpa using n20) | (go_simp; simpa using n35)
      try simp only [Act.put, List.setIfInBounds_toArray, List.set_cons_zero, List.set_cons_succ, List.getElem_toArray, List.getElem_cons_zero, List.getElem_cons_succ]
      refine wpAnyH_take (i := 19) (v := .int .i64 rl) rfl (by kernel_rfl) (by kernel_rfl) (by kernel_rfl) (fun _ _ _ h => h) (Or.inl ⟨by rfl, ?hy19c3⟩) (by assumption) ?rest19c3
      case hy19c3 =>
        intro w' hSw
        (try dsimp only at hSw)
        obtain ⟨s0, s1, s2, s3⟩ := hSw
        first | (go_simp; done) | (go_simp; simp [n20, n21, n35]; done) | (go_simp; simpa using n20) | (go_simp; simpa using n35)
      try simp only [Act.put, List.setIfInBounds_toArray, List.set_cons_zero, List.set_cons_succ, List.getElem_toArray, List.getElem_cons_zero, List.getElem_cons_succ]
      refine wpAnyH_take (i := 20) (v := .pointer (some ⟨bb, 3, none⟩)) rfl (by kernel_rfl) (by kernel_rfl) (by kernel_rfl) (fun _ _ _ h => h) (Or.inl ⟨by rfl, ?hy20c3⟩) (by assumption) ?rest20c3
      case hy20c3 =>
        intro w' hSw
        (try dsimp only at hSw)
        obtain ⟨s0, s1, s2, s3⟩ := hSw
        first | (go_simp; done) | (go_simp; simp [n20, n21, n35]; done) | (go_simp; simpa using n20) | (go_simp; simpa using n35)
      try simp only [Act.put, List.setIfInBounds_toArray, List.set_cons_zero, List.set_cons_succ, List.getElem_toArray, List.getElem_cons_zero, List.getElem_cons_succ]
      refine wpAnyH_take (i := 21) (v := .int .i64 rl) rfl (by kernel_rfl) (by kernel_rfl) (by kernel_rfl) (fun _ _ _ h => h) (Or.inl ⟨by rfl, ?hy21c3⟩) (by assumption) ?rest21c3
      case hy21c3 =>
        intro w' hSw
        (try dsimp only at hSw)
        obtain ⟨s0, s1, s2, s3⟩ := hSw
        first | (go_simp; done) | (go_simp; simp [n20, n21, n35]; done) | (go_simp; simpa using n20) | (go_simp; simpa using n35)
      try simp only [Act.put, List.setIfInBounds_toArray, List.set_cons_zero, List.set_cons_succ, List.getElem_toArray, List.getElem_cons_zero, List.getElem_cons_succ]
      refine wpAnyH_take (i := 22) (v := .bool false) rfl (by kernel_rfl) (by kernel_rfl) (by kernel_rfl) (fun _ _ _ h => h) (Or.inl ⟨by rfl, ?hy22c3⟩) (by assumption) ?rest22c3
      case hy22c3 =>
        intro w' hSw
        (try dsimp only at hSw)
        obtain ⟨s0, s1, s2, s3⟩ := hSw
        first | (go_simp; done) | (go_simp; simp [n20, n21, n35]; done) | (go_simp; simpa using n20) | (go_simp; simpa using n35)
      try simp only [Act.put, List.setIfInBounds_toArray, List.set_cons_zero, List.set_cons_succ, List.getElem_toArray, List.getElem_cons_zero, List.getElem_cons_succ]
      refine wpAnyH_take (i := 23) (v := .bool false) rfl (by kernel_rfl) (by kernel_rfl) (by kernel_rfl) (fun _ _ _ h => h) (Or.inl ⟨by rfl, ?hy23c3⟩) (by assumption) ?rest23c3
      case hy23c3 =>
        intro w' hSw
        (try dsimp only at hSw)
        obtain ⟨s0, s1, s2, s3⟩ := hSw
        first | (go_simp; done) | (go_simp; simp [n20, n21, n35]; done) | (go_simp; simpa using n20) | (go_simp; simpa using n35)
      try simp only [Act.put, List.setIfInBounds_toArray, List.set_cons_zero, List.set_cons_succ, List.getElem_toArray, List.getElem_cons_zero, List.getElem_cons_succ]
      refine wpAnyH_take (i := 24) (v := .bool false) rfl (by kernel_rfl) (by kernel_rfl) (by kernel_rfl) (fun _ _ _ h => h) (Or.inl ⟨by rfl, ?hy24c3⟩) (by assumption) ?rest24c3
      case hy24c3 =>
        intro w' hSw
        (try dsimp only at hSw)
        obtain ⟨s0, s1, s2, s3⟩ := hSw
        first | (go_simp; done) | (go_simp; simp [n20, n21, n35]; done) | (go_simp; simpa using n20) | (go_simp; simpa using n35)
      try simp only [Act.put, List.setIfInBounds_toArray, List.set_cons_zero, List.set_cons_succ, List.getElem_toArray, List.getElem_cons_zero, List.getElem_cons_succ]
      refine wpAnyH_take (i := 25) (v := .bool false) rfl (by kernel_rfl) (by kernel_rfl) (by kernel_rfl) (fun _ _ _ h => h) (Or.inl ⟨by rfl, ?hy25c3⟩) (by assumption) ?rest25c3
      case hy25c3 =>
        intro w' hSw
        (try dsimp only at hSw)
        obtain ⟨s0, s1, s2, s3⟩ := hSw
        first | (go_simp; done) | (go_simp; simp [n20, n21, n35]; done) | (go_simp; simpa using n20) | (go_simp; simpa using n35)
      try simp only [Act.put, List.setIfInBounds_toArray, List.set_cons_zero, List.set_cons_succ, List.getElem_toArray, List.getElem_cons_zero, List.getElem_cons_succ]
      refine wpAnyH_take (i := 26) (v := .int .i64 op) rfl (by kernel_rfl) (by kernel_rfl) (by kernel_rfl) (fun _ _ _ h => h) (Or.inl ⟨by rfl, ?hy26c3⟩) (by assumption) ?rest26c3
      case hy26c3 =>
        intro w' hSw
        (try dsimp only at hSw)
        obtain ⟨s0, s1, s2, s3⟩ := hSw
        first | (go_simp; done) | (go_simp; simp [n20, n21, n35]; done) | (go_simp; simpa using n20) | (go_simp; simpa using n35)
      try simp only [Act.put, List.setIfInBounds_toArray, List.set_cons_zero, List.set_cons_succ, List.getElem_toArray, List.getElem_cons_zero, List.getElem_cons_succ]
      refine wpAnyH_take (i := 27) (v := .bool false) rfl (by kernel_rfl) (by kernel_rfl) (by kernel_rfl) (fun _ _ _ h => h) (Or.inl ⟨by rfl, ?hy27c3⟩) (by assumption) ?rest27c3
      case hy27c3 =>
        intro w' hSw
        (try dsimp only at hSw)
        obtain ⟨s0, s1, s2, s3⟩ := hSw
        first | (go_simp; done) | (go_simp; simp [n20, n21, n35]; done) | (go_simp; simpa using n20) | (go_simp; simpa using n35)
      try simp only [Act.put, List.setIfInBounds_toArray, List.set_cons_zero, List.set_cons_succ, List.getElem_toArray, List.getElem_cons_zero, List.getElem_cons_succ]
      refine wpAnyH_take (i := 28) (v := .bool false) rfl (by kernel_rfl) (by kernel_rfl) (by kernel_rfl) (fun _ _ _ h => h) (Or.inl ⟨by rfl, ?hy28c3⟩) (by assumption) ?rest28c3
      case hy28c3 =>
        intro w' hSw
        (try dsimp only at hSw)
        obtain ⟨s0, s1, s2, s3⟩ := hSw
        first | (go_simp; done) | (go_simp; simp [n20, n21, n35]; done) | (go_simp; simpa using n20) | (go_simp; simpa using n35)
      try simp only [Act.put, List.setIfInBounds_toArray, List.set_cons_zero, List.set_cons_succ, List.getElem_toArray, List.getElem_cons_zero, List.getElem_cons_succ]
      refine wpAnyH_take (i := 29) (v := .int .i64 op) rfl (by kernel_rfl) (by kernel_rfl) (by kernel_rfl) (fun _ _ _ h => h) (Or.inl ⟨by rfl, ?hy29c3⟩) (by assumption) ?rest29c3
      case hy29c3 =>
        intro w' hSw
        (try dsimp only at hSw)
        obtain ⟨s0, s1, s2, s3⟩ := hSw
        first | (go_simp; done) | (go_simp; simp [n20, n21, n35]; done) | (go_simp; simpa using n20) | (go_simp; simpa using n35)
      try simp only [Act.put, List.setIfInBounds_toArray, List.set_cons_zero, List.set_cons_succ, List.getElem_toArray, List.getElem_cons_zero, List.getElem_cons_succ]
      refine wpAnyH_take (i := 30) (v := .bool false) rfl (by kernel_rfl) (by kernel_rfl) (by kernel_rfl) (fun _ _ _ h => h) (Or.inl ⟨by rfl, ?hy30c3⟩) (by assumption) ?rest30c3
      case hy30c3 =>
        intro w' hSw
        (try dsimp only at hSw)
        obtain ⟨s0, s1, s2, s3⟩ := hSw
        first | (go_simp; done) | (go_simp; simp [n20, n21, n35]; done) | (go_simp; simpa using n20) | (go_simp; simpa using n35)
      try simp only [Act.put, List.setIfInBounds_toArray, List.set_cons_zero, List.set_cons_succ, List.getElem_toArray, List.getElem_cons_zero, List.getElem_cons_succ]
      refine wpAnyH_take (i := 31) (v := .bool false) rfl (by kernel_rfl) (by kernel_rfl) (by kernel_rfl) (fun _ _ _ h => h) (Or.inl ⟨by rfl, ?hy31c3⟩) (by assumption) ?rest31c3
      case hy31c3 =>
        intro w' hSw
        (try dsimp only at hSw)
        obtain ⟨s0, s1, s2, s3⟩ := hSw
        first | (go_simp; done) | (go_simp; simp [n20, n21, n35]; done) | (go_simp; simpa using n20) | (go_simp; simpa using n35)
      try simp only [Act.put, List.setIfInBounds_toArray, List.set_cons_zero, List.set_cons_succ, List.getElem_toArray, List.getElem_cons_zero, List.getElem_cons_succ]
      refine wpAnyH_take (i := 32) (v := .bool false) rfl (by kernel_rfl) (by kernel_rfl) (by kernel_rfl) (fun _ _ _ h => h) (Or.inl ⟨by rfl, ?hy32c3⟩) (by assumption) ?rest32c3
      case hy32c3 =>
        intro w' hSw
        (try dsimp only at hSw)
        obtain ⟨s0, s1, s2, s3⟩ := hSw
        first | (go_simp; done) | (go_simp; simp [n20, n21, n35]; done) | (go_simp; simpa using n20) | (go_simp; simpa using n35)
      try simp only [Act.put, List.setIfInBounds_toArray, List.set_cons_zero, List.set_cons_succ, List.getElem_toArray, List.getElem_cons_zero, List.getElem_cons_succ]
      refine wpAnyH_take (i := 33) (v := .bool false) rfl (by kernel_rfl) (by kernel_rfl) (by kernel_rfl) (fun _ _ _ h => h) (Or.inl ⟨by rfl, ?hy33c3⟩) (by assumption) ?rest33c3
      case hy33c3 =>
        intro w' hSw
        (try dsimp only at hSw)
        obtain ⟨s0, s1, s2, s3⟩ := hSw
        first | (go_simp; done) | (go_simp; simp [n20, n21, n35]; done) | (go_simp; simpa using n20) | (go_simp; simpa using n35)
      try simp only [Act.put, List.setIfInBounds_toArray, List.set_cons_zero, List.set_cons_succ, List.getElem_toArray, List.getElem_cons_zero, List.getElem_cons_succ]
      refine wpAnyH_take (i := 34) (v := .bool false) rfl (by kernel_rfl) (by kernel_rfl) (by kernel_rfl) (fun _ _ _ h => h) (Or.inl ⟨by rfl, ?hy34c3⟩) (by assumption) ?rest34c3
      case hy34c3 =>
        intro w' hSw
        (try dsimp only at hSw)
        obtain ⟨s0, s1, s2, s3⟩ := hSw
        first | (go_simp; done) | (go_simp; simp [n20, n21, n35]; done) | (go_simp; simpa using n20) | (go_simp; simpa using n35)
      try simp only [Act.put, List.setIfInBounds_toArray, List.set_cons_zero, List.set_cons_succ, List.getElem_toArray, List.getElem_cons_zero, List.getElem_cons_succ]
      refine wpAnyH_take (i := 35) (v := .bool false) rfl (by kernel_rfl) (by kernel_rfl) (by kernel_rfl) (fun _ _ _ h => h) (Or.inl ⟨by rfl, ?hy35c3⟩) (by assumption) ?rest35c3
      case hy35c3 =>
        intro w' hSw
        (try dsimp only at hSw)
        obtain ⟨s0, s1, s2, s3⟩ := hSw
        first | (go_simp; done) | (go_simp; simp [n20, n21, n35]; done) | (go_simp; simpa using n20) | (go_simp; simpa using n35)
      try simp only [Act.put, List.setIfInBounds_toArray, List.set_cons_zero, List.set_cons_succ, List.getElem_toArray, List.getElem_cons_zero, List.getElem_cons_succ]
      refine wpAnyH_take (i := 36) (v := .bool true) rfl (by kernel_rfl) (by kernel_rfl) (by kernel_rfl) (fun _ _ _ h => h) (Or.inl ⟨by rfl, ?hy36c3⟩) (by assumption) ?rest36c3
      case hy36c3 =>
        intro w' hSw
        (try dsimp only at hSw)
        obtain ⟨s0, s1, s2, s3⟩ := hSw
        first | (go_simp; done) | (go_simp; simp [n20, n21, n35]; done) | (go_simp; simpa using n20) | (go_simp; simpa using n35)
      try simp only [Act.put, List.setIfInBounds_toArray, List.set_cons_zero, List.set_cons_succ, List.getElem_toArray, List.getElem_cons_zero, List.getElem_cons_succ]
      refine wpAnyH_take (i := 37) (v := .bool true) rfl (by kernel_rfl) (by kernel_rfl) (by kernel_rfl) (fun _ _ _ h => h) (Or.inl ⟨by rfl, ?hy37c3⟩) (by assumption) ?rest37c3
      case hy37c3 =>
        intro w' hSw
        (try dsimp only at hSw)
        obtain ⟨s0, s1, s2, s3⟩ := hSw
        first | (go_simp; done) | (go_simp; simp [n20, n21, n35]; done) | (go_simp; simpa using n20) | (go_simp; simpa using n35)
      try simp only [Act.put, List.setIfInBounds_toArray, List.set_cons_zero, List.set_cons_succ, List.getElem_toArray, List.getElem_cons_zero, List.getElem_cons_succ]
      refine wpAnyH_take (i := 38) (v := .int .i64 op) rfl (by kernel_rfl) (by kernel_rfl) (by kernel_rfl) (fun _ _ _ h => h) (Or.inl ⟨by rfl, ?hy38c3⟩) (by assumption) ?rest38c3
      case hy38c3 =>
        intro w' hSw
        (try dsimp only at hSw)
        obtain ⟨s0, s1, s2, s3⟩ := hSw
        first | (go_simp; done) | (go_simp; simp [n20, n21, n35]; done) | (go_simp; simpa using n20) | (go_simp; simpa using n35)
      try simp only [Act.put, List.setIfInBounds_toArray, List.set_cons_zero, List.set_cons_succ, List.getElem_toArray, List.getElem_cons_zero, List.getElem_cons_succ]
      refine wpAnyH_take (i := 39) (v := .bool true) rfl (by kernel_rfl) (by kernel_rfl) (by kernel_rfl) (fun _ _ _ h => h) (Or.inl ⟨by rfl, ?hy39c3⟩) (by assumption) ?rest39c3
      case hy39c3 =>
        intro w' hSw
        (try dsimp only at hSw)
        obtain ⟨s0, s1, s2, s3⟩ := hSw
        first | (go_simp; done) | (go_simp; simp [n20, n21, n35]; done) | (go_simp; simpa using n20) | (go_simp; simpa using n35)
      try simp only [Act.put, List.setIfInBounds_toArray, List.set_cons_zero, List.set_cons_succ, List.getElem_toArray, List.getElem_cons_zero, List.getElem_cons_succ]
      refine wpAnyH_take (i := 40) (v := .bool true) rfl (by kernel_rfl) (by kernel_rfl) (by kernel_rfl) (fun _ _ _ h => h) (Or.inl ⟨by rfl, ?hy40c3⟩) (by assumption) ?rest40c3
      case hy40c3 =>
        intro w' hSw
        (try dsimp only at hSw)
        obtain ⟨s0, s1, s2, s3⟩ := hSw
        first | (go_simp; done) | (go_simp; simp [n20, n21, n35]; done) | (go_simp; simpa using n20) | (go_simp; simpa using n35)
      try simp only [Act.put, List.setIfInBounds_toArray, List.set_cons_zero, List.set_cons_succ, List.getElem_toArray, List.getElem_cons_zero, List.getElem_cons_succ]
      refine wpAnyH_take (i := 41) (v := .bool true) rfl (by kernel_rfl) (by kernel_rfl) (by kernel_rfl) (fun _ _ _ h => h) (Or.inl ⟨by rfl, ?hy41c3⟩) (by assumption) ?rest41c3
      case hy41c3 =>
        intro w' hSw
        (try dsimp only at hSw)
        obtain ⟨s0, s1, s2, s3⟩ := hSw
        first | (go_simp; done) | (go_simp; simp [n20, n21, n35]; done) | (go_simp; simpa using n20) | (go_simp; simpa using n35)
      try simp only [Act.put, List.setIfInBounds_toArray, List.set_cons_zero, List.set_cons_succ, List.getElem_toArray, List.getElem_cons_zero, List.getElem_cons_succ]
      refine wpAnyH_take (i := 42) (v := .int .i64 op) rfl (by kernel_rfl) (by kernel_rfl) (by kernel_rfl) (fun _ _ _ h => h) (Or.inl ⟨by rfl, ?hy42c3⟩) (by assumption) ?rest42c3
      case hy42c3 =>
        intro w' hSw
        (try dsimp only at hSw)
        obtain ⟨s0, s1, s2, s3⟩ := hSw
        first | (go_simp; done) | (go_simp; simp [n20, n21, n35]; done) | (go_simp; simpa using n20) | (go_simp; simpa using n35)
      try simp only [Act.put, List.setIfInBounds_toArray, List.set_cons_zero, List.set_cons_succ, List.getElem_toArray, List.getElem_cons_zero, List.getElem_cons_succ]
      refine wpAnyH_take (i := 43) (v := .bool false) rfl (by kernel_rfl) (by kernel_rfl) (by kernel_rfl) (fun _ _ _ h => h) (Or.inl ⟨by rfl, ?hy43c3⟩) (by assumption) ?rest43c3
      case hy43c3 =>
        intro w' hSw
        (try dsimp only at hSw)
        obtain ⟨s0, s1, s2, s3⟩ := hSw
        first | (go_simp; done) | (go_simp; simp [n20, n21, n35]; done) | (go_simp; simpa using n20) | (go_simp; simpa using n35)
      try simp only [Act.put, List.setIfInBounds_toArray, List.set_cons_zero, List.set_cons_succ, List.getElem_toArray, List.getElem_cons_zero, List.getElem_cons_succ]
      refine wpAnyH_take (i := 44) (v := .bool false) rfl (by kernel_rfl) (by kernel_rfl) (by kernel_rfl) (fun _ _ _ h => h) (Or.inl ⟨by rfl, ?hy44c3⟩) (by assumption) ?rest44c3
      case hy44c3 =>
        intro w' hSw
        (try dsimp only at hSw)
        obtain ⟨s0, s1, s2, s3⟩ := hSw
        first | (go_simp; done) | (go_simp; simp [n20, n21, n35]; done) | (go_simp; simpa using n20) | (go_simp; simpa using n35)
      try simp only [Act.put, List.setIfInBounds_toArray, List.set_cons_zero, List.set_cons_succ, List.getElem_toArray, List.getElem_cons_zero, List.getElem_cons_succ]
      refine wpAnyH_take (i := 45) (v := .bool false) rfl (by kernel_rfl) (by kernel_rfl) (by kernel_rfl) (fun _ _ _ h => h) (Or.inl ⟨by rfl, ?hy45c3⟩) (by assumption) ?rest45c3
      case hy45c3 =>
        intro w' hSw
        (try dsimp only at hSw)
        obtain ⟨s0, s1, s2, s3⟩ := hSw
        first | (go_simp; done) | (go_simp; simp [n20, n21, n35]; done) | (go_simp; simpa using n20) | (go_simp; simpa using n35)
      try simp only [Act.put, List.setIfInBounds_toArray, List.set_cons_zero, List.set_cons_succ, List.getElem_toArray, List.getElem_cons_zero, List.getElem_cons_succ]
      refine wpAnyH_take (i := 46) (v := .bool false) rfl (by kernel_rfl) (by kernel_rfl) (by kernel_rfl) (fun _ _ _ h => h) (Or.inl ⟨by rfl, ?hy46c3⟩) (by assumption) ?rest46c3
      case hy46c3 =>
        intro w' hSw
        (try dsimp only at hSw)
        obtain ⟨s0, s1, s2, s3⟩ := hSw
        first | (go_simp; done) | (go_simp; simp [n20, n21, n35]; done) | (go_simp; simpa using n20) | (go_simp; simpa using n35)
      try simp only [Act.put, List.setIfInBounds_toArray, List.set_cons_zero, List.set_cons_succ, List.getElem_toArray, List.getElem_cons_zero, List.getElem_cons_succ]
      refine wpAnyH_done (by kernel_rfl) ?_ _
      go_wp2_with fail
      go_meet
      exact ⟨rfl, Hf6.out⟩
    · clear hb
      cases b
      · rw [n20, n21, n35]
        simp only [Bool.or_true, Bool.true_or, Bool.or_false, Bool.false_or, Bool.not_true, Bool.not_false, Bool.and_true, Bool.and_false, Bool.true_and, Bool.false_and]
        refine wp_region_held_drew (S := fun w' => w'.cell? ⟨bb, 0, none⟩ = some (.string ⟨rw_.toArray⟩) ∧ w'.cell? ⟨bb, 1, none⟩ = some (.int .i64 ra) ∧ w'.cell? ⟨bb, 2, none⟩ = some (.int .i64 rt) ∧ w'.cell? ⟨bb, 3, none⟩ = some (.int .i64 rl)) (by kernel_rfl) (blk4_cells Hb4.out.drew) (fun hHeld => ?_)
        refine wpAnyH_take (i := 0) (v := .int .i64 op) rfl (by kernel_rfl) (by kernel_rfl) (by kernel_rfl) (fun _ _ _ h => h) (Or.inl ⟨by rfl, ?hy0c4⟩) (by assumption) ?rest0c4
        case hy0c4 =>
          intro w' hSw
          (try dsimp only at hSw)
          obtain ⟨s0, s1, s2, s3⟩ := hSw
          first | (go_simp; done) | (go_simp; simp [n20, n21, n35]; done) | (go_simp; simpa using n20) | (go_simp; simpa using n35)
        try simp only [Act.put, List.setIfInBounds_toArray, List.set_cons_zero, List.set_cons_succ, List.getElem_toArray, List.getElem_cons_zero, List.getElem_cons_succ]
        refine wpAnyH_take (i := 2) (v := .pointer (some ⟨bb, 0, none⟩)) rfl (by kernel_rfl) (by kernel_rfl) (by kernel_rfl) (fun _ _ _ h => h) (Or.inl ⟨by rfl, ?hy2c4⟩) (by assumption) ?rest2c4
        case hy2c4 =>
          intro w' hSw
          (try dsimp only at hSw)
          obtain ⟨s0, s1, s2, s3⟩ := hSw
          first | (go_simp; done) | (go_simp; simp [n20, n21, n35]; done) | (go_simp; simpa using n20) | (go_simp; simpa using n35)
        try simp only [Act.put, List.setIfInBounds_toArray, List.set_cons_zero, List.set_cons_succ, List.getElem_toArray, List.getElem_cons_zero, List.getElem_cons_succ]
        refine wpAnyH_take (i := 3) (v := .string ⟨rw_.toArray⟩) rfl (by kernel_rfl) (by kernel_rfl) (by kernel_rfl) (fun _ _ _ h => h) (Or.inl ⟨by rfl, ?hy3c4⟩) (by assumption) ?rest3c4
        case hy3c4 =>
          intro w' hSw
          (try dsimp only at hSw)
          obtain ⟨s0, s1, s2, s3⟩ := hSw
          first | (go_simp; done) | (go_simp; simp [n20, n21, n35]; done) | (go_simp; simpa using n20) | (go_simp; simpa using n35)
        try simp only [Act.put, List.setIfInBounds_toArray, List.set_cons_zero, List.set_cons_succ, List.getElem_toArray, List.getElem_cons_zero, List.getElem_cons_succ]
        refine wpAnyH_ready (rs := [1]) (by kernel_rfl) (by simp) ?_
        refine AllReadyH.cons rfl (fun K hK => ?_) ?_
        rotate_left
        · exact AllReadyH.nil
        go_simp
        go_at_call 12
        refine (HN.out _ Hf4.out.drew).mono ?_
        rintro e w5 ⟨rfl, hf5⟩
        have Hb5 := hide (Hb4.out.drew.fr0 hf5)
        have Hf5 := hide (Hf4.out.drew.trans hf5)
        clear hf5
        go_wp2_with fail
        refine hK.out _ _ (blk4_cells Hb5.out) (fun hHeld5 => ?_)
        clear hHeld
        clear hK K
        try simp only [Act.put, List.setIfInBounds_toArray, List.set_cons_zero, List.set_cons_succ, List.getElem_toArray, List.getElem_cons_zero, List.getElem_cons_succ]
        refine wpAnyH_take (i := 4) (v := .bool false) rfl (by kernel_rfl) (by kernel_rfl) (by kernel_rfl) (fun _ _ _ h => h) (Or.inl ⟨by rfl, ?hy4c4⟩) (by assumption) ?rest4c4
        case hy4c4 =>
          intro w' hSw
          (try dsimp only at hSw)
          obtain ⟨s0, s1, s2, s3⟩ := hSw
          first | (go_simp; done) | (go_simp; simp [n20, n21, n35]; done) | (go_simp; simpa using n20) | (go_simp; simpa using n35)
        try simp only [Act.put, List.setIfInBounds_toArray, List.set_cons_zero, List.set_cons_succ, List.getElem_toArray, List.getElem_cons_zero, List.getElem_cons_succ]
        refine wpAnyH_take (i := 5) (v := .bool false) rfl (by kernel_rfl) (by kernel_rfl) (by kernel_rfl) (fun _ _ _ h => h) (Or.inl ⟨by rfl, ?hy5c4⟩) (by assumption) ?rest5c4
        case hy5c4 =>
          intro w' hSw
          (try dsimp only at hSw)
          obtain ⟨s0, s1, s2, s3⟩ := hSw
          first | (go_simp; done) | (go_simp; simp [n20, n21, n35]; done) | (go_simp; simpa using n20) | (go_simp; simpa using n35)
        try simp only [Act.put, List.setIfInBounds_toArray, List.set_cons_zero, List.set_cons_succ, List.getElem_toArray, List.getElem_cons_zero, List.getElem_cons_succ]
        refine wpAnyH_take (i := 6) (v := .int .i64 op) rfl (by kernel_rfl) (by kernel_rfl) (by kernel_rfl) (fun _ _ _ h => h) (Or.inl ⟨by rfl, ?hy6c4⟩) (by assumption) ?rest6c4
        case hy6c4 =>
          intro w' hSw
          (try dsimp only at hSw)
          obtain ⟨s0, s1, s2, s3⟩ := hSw
          first | (go_simp; done) | (go_simp; simp [n20, n21, n35]; done) | (go_simp; simpa using n20) | (go_simp; simpa using n35)
        try simp only [Act.put, List.setIfInBounds_toArray, List.set_cons_zero, List.set_cons_succ, List.getElem_toArray, List.getElem_cons_zero, List.getElem_cons_succ]
        refine wpAnyH_take (i := 8) (v := .pointer (some ⟨bb, 1, none⟩)) rfl (by kernel_rfl) (by kernel_rfl) (by kernel_rfl) (fun _ _ _ h => h) (Or.inl ⟨by rfl, ?hy8c4⟩) (by assumption) ?rest8c4
        case hy8c4 =>
          intro w' hSw
          (try dsimp only at hSw)
          obtain ⟨s0, s1, s2, s3⟩ := hSw
          first | (go_simp; done) | (go_simp; simp [n20, n21, n35]; done) | (go_simp; simpa using n20) | (go_simp; simpa using n35)
        try simp only [Act.put, List.setIfInBounds_toArray, List.set_cons_zero, List.set_cons_succ, List.getElem_toArray, List.getElem_cons_zero, List.getElem_cons_succ]
        refine wpAnyH_take (i := 9) (v := .int .i64 ra) rfl (by kernel_rfl) (by kernel_rfl) (by kernel_rfl) (fun _ _ _ h => h) (Or.inl ⟨by rfl, ?hy9c4⟩) (by assumption) ?rest9c4
        case hy9c4 =>
          intro w' hSw
          (try dsimp only at hSw)
          obtain ⟨s0, s1, s2, s3⟩ := hSw
          first | (go_simp; done) | (go_simp; simp [n20, n21, n35]; done) | (go_simp; simpa using n20) | (go_simp; simpa using n35)
        try simp only [Act.put, List.setIfInBounds_toArray, List.set_cons_zero, List.set_cons_succ, List.getElem_toArray, List.getElem_cons_zero, List.getElem_cons_succ]
        refine wpAnyH_ready (rs := [7]) (by kernel_rfl) (by simp) ?_
        refine AllReadyH.cons rfl (fun K hK => ?_) ?_
        rotate_left
        · exact AllReadyH.nil
        go_simp
        go_at_call 13
        refine (HG.out _ Hf5.out).mono ?_
        rintro e w6 ⟨rfl, hf6⟩
        have Hb6 := hide (Hb5.out.fr0 hf6)
        have Hf6 := hide (Hf5.out.trans hf6)
        clear hf6
        go_wp2_with fail
        refine hK.out _ _ (blk4_cells Hb6.out) (fun hHeld6 => ?_)
        clear hHeld5
        clear hK K
        try simp only [Act.put, List.setIfInBounds_toArray, List.set_cons_zero, List.set_cons_succ, List.getElem_toArray, List.getElem_cons_zero, List.getElem_cons_succ]
        refine wpAnyH_take (i := 10) (v := .bool false) rfl (by kernel_rfl) (by kernel_rfl) (by kernel_rfl) (fun _ _ _ h => h) (Or.inl ⟨by rfl, ?hy10c4⟩) (by assumption) ?rest10c4
        case hy10c4 =>
          intro w' hSw
          (try dsimp only at hSw)
          obtain ⟨s0, s1, s2, s3⟩ := hSw
          first | (go_simp; done) | (go_simp; simp [n20, n21, n35]; done) | (go_simp; simpa using n20) | (go_simp; simpa using n35)
        try simp only [Act.put, List.setIfInBounds_toArray, List.set_cons_zero, List.set_cons_succ, List.getElem_toArray, List.getElem_cons_zero, List.getElem_cons_succ]
        refine wpAnyH_take (i := 11) (v := .bool false) rfl (by kernel_rfl) (by kernel_rfl) (by kernel_rfl) (fun _ _ _ h => h) (Or.inl ⟨by rfl, ?hy11c4⟩) (by assumption) ?rest11c4
        case hy11c4 =>
          intro w' hSw
          (try dsimp only at hSw)
          obtain ⟨s0, s1, s2, s3⟩ := hSw
          first | (go_simp; done) | (go_simp; simp [n20, n21, n35]; done) | (go_simp; simpa using n20) | (go_simp; simpa using n35)
        try simp only [Act.put, List.setIfInBounds_toArray, List.set_cons_zero, List.set_cons_succ, List.getElem_toArray, List.getElem_cons_zero, List.getElem_cons_succ]
        refine wpAnyH_take (i := 12) (v := .bool false) rfl (by kernel_rfl) (by kernel_rfl) (by kernel_rfl) (fun _ _ _ h => h) (Or.inl ⟨by rfl, ?hy12c4⟩) (by assumption) ?rest12c4
        case hy12c4 =>
          intro w' hSw
          (try dsimp only at hSw)
          obtain ⟨s0, s1, s2, s3⟩ := hSw
          first | (go_simp; done) | (go_simp; simp [n20, n21, n35]; done) | (go_simp; simpa using n20) | (go_simp; simpa using n35)
        try simp only [Act.put, List.setIfInBounds_toArray, List.set_cons_zero, List.set_cons_succ, List.getElem_toArray, List.getElem_cons_zero, List.getElem_cons_succ]
        refine wpAnyH_take (i := 13) (v := .int .i64 rt) rfl (by kernel_rfl) (by kernel_rfl) (by kernel_rfl) (fun _ _ _ h => h) (Or.inl ⟨by rfl, ?hy13c4⟩) (by assumption) ?rest13c4
        case hy13c4 =>
          intro w' hSw
          (try dsimp only at hSw)
          obtain ⟨s0, s1, s2, s3⟩ := hSw
          first | (go_simp; done) | (go_simp; simp [n20, n21, n35]; done) | (go_simp; simpa using n20) | (go_simp; simpa using n35)
        try simp only [Act.put, List.setIfInBounds_toArray, List.set_cons_zero, List.set_cons_succ, List.getElem_toArray, List.getElem_cons_zero, List.getElem_cons_succ]
        refine wpAnyH_take (i := 14) (v := .pointer (some ⟨bb, 2, none⟩)) rfl (by kernel_rfl) (by kernel_rfl) (by kernel_rfl) (fun _ _ _ h => h) (Or.inl ⟨by rfl, ?hy14c4⟩) (by assumption) ?rest14c4
        case hy14c4 =>
          intro w' hSw
          (try dsimp only at hSw)
          obtain ⟨s0, s1, s2, s3⟩ := hSw
          first | (go_simp; done) | (go_simp; simp [n20, n21, n35]; done) | (go_simp; simpa using n20) | (go_simp; simpa using n35)
        try simp only [Act.put, List.setIfInBounds_toArray, List.set_cons_zero, List.set_cons_succ, List.getElem_toArray, List.getElem_cons_zero, List.getElem_cons_succ]
        refine wpAnyH_take (i := 15) (v := .int .i64 rt) rfl (by kernel_rfl) (by kernel_rfl) (by kernel_rfl) (fun _ _ _ h => h) (Or.inl ⟨by rfl, ?hy15c4⟩) (by assumption) ?rest15c4
        case hy15c4 =>
          intro w' hSw
          (try dsimp only at hSw)
          obtain ⟨s0, s1, s2, s3⟩ := hSw
          first | (go_simp; done) | (go_simp; simp [n20, n21, n35]; done) | (go_simp; simpa using n20) | (go_simp; simpa using n35)
        try simp only [Act.put, List.setIfInBounds_toArray, List.set_cons_zero, List.set_cons_succ, List.getElem_toArray, List.getElem_cons_zero, List.getElem_cons_succ]
        refine wpAnyH_take (i := 16) (v := .bool false) rfl (by kernel_rfl) (by kernel_rfl) (by kernel_rfl) (fun _ _ _ h => h) (Or.inl ⟨by rfl, ?hy16c4⟩) (by assumption) ?rest16c4
        case hy16c4 =>
          intro w' hSw
          (try dsimp only at hSw)
          obtain ⟨s0, s1, s2, s3⟩ := hSw
          first | (go_simp; done) | (go_simp; simp [n20, n21, n35]; done) | (go_simp; simpa using n20) | (go_simp; simpa using n35)
        try simp only [Act.put, List.setIfInBounds_toArray, List.set_cons_zero, List.set_cons_succ, List.getElem_toArray, List.getElem_cons_zero, List.getElem_cons_succ]
        refine wpAnyH_take (i := 17) (v := .bool false) rfl (by kernel_rfl) (by kernel_rfl) (by kernel_rfl) (fun _ _ _ h => h) (Or.inl ⟨by rfl, ?hy17c4⟩) (by assumption) ?rest17c4
        case hy17c4 =>
          intro w' hSw
          (try dsimp only at hSw)
          obtain ⟨s0, s1, s2, s3⟩ := hSw
          first | (go_simp; done) | (go_simp; simp [n20, n21, n35]; done) | (go_simp; simpa using n20) | (go_simp; simpa using n35)
        try simp only [Act.put, List.setIfInBounds_toArray, List.set_cons_zero, List.set_cons_succ, List.getElem_toArray, List.getElem_cons_zero, List.getElem_cons_succ]
        refine wpAnyH_take (i := 18) (v := .bool false) rfl (by kernel_rfl) (by kernel_rfl) (by kernel_rfl) (fun _ _ _ h => h) (Or.inl ⟨by rfl, ?hy18c4⟩) (by assumption) ?rest18c4
        case hy18c4 =>
          intro w' hSw
          (try dsimp only at hSw)
          obtain ⟨s0, s1, s2, s3⟩ := hSw
          first | (go_simp; done) | (go_simp; simp [n20, n21, n35]; done) | (go_simp; simpa using n20) | (go_simp; simpa using n35)
        try simp only [Act.put, List.setIfInBounds_toArray, List.set_cons_zero, List.set_cons_succ, List.getElem_toArray, List.getElem_cons_zero, List.getElem_cons_succ]
        refine wpAnyH_take (i := 19) (v := .int .i64 rl) rfl (by kernel_rfl) (by kernel_rfl) (by kernel_rfl) (fun _ _ _ h => h) (Or.inl ⟨by rfl, ?hy19c4⟩) (by assumption) ?rest19c4
        case hy19c4 =>
          intro w' hSw
          (try dsimp only at hSw)
          obtain ⟨s0, s1, s2, s3⟩ := hSw
          first | (go_simp; done) | (go_simp; simp [n20, n21, n35]; done) | (go_simp; simpa using n20) | (go_simp; simpa using n35)
        try simp only [Act.put, List.setIfInBounds_toArray, List.set_cons_zero, List.set_cons_succ, List.getElem_toArray, List.getElem_cons_zero, List.getElem_cons_succ]
        refine wpAnyH_take (i := 20) (v := .pointer (some ⟨bb, 3, none⟩)) rfl (by kernel_rfl) (by kernel_rfl) (by kernel_rfl) (fun _ _ _ h => h) (Or.inl ⟨by rfl, ?hy20c4⟩) (by assumption) ?rest20c4
        case hy20c4 =>
          intro w' hSw
          (try dsimp only at hSw)
          obtain ⟨s0, s1, s2, s3⟩ := hSw
          first | (go_simp; done) | (go_simp; simp [n20, n21, n35]; done) | (go_simp; simpa using n20) | (go_simp; simpa using n35)
        try simp only [Act.put, List.setIfInBounds_toArray, List.set_cons_zero, List.set_cons_succ, List.getElem_toArray, List.getElem_cons_zero, List.getElem_cons_succ]
        refine wpAnyH_take (i := 21) (v := .int .i64 rl) rfl (by kernel_rfl) (by kernel_rfl) (by kernel_rfl) (fun _ _ _ h => h) (Or.inl ⟨by rfl, ?hy21c4⟩) (by assumption) ?rest21c4
        case hy21c4 =>
          intro w' hSw
          (try dsimp only at hSw)
          obtain ⟨s0, s1, s2, s3⟩ := hSw
          first | (go_simp; done) | (go_simp; simp [n20, n21, n35]; done) | (go_simp; simpa using n20) | (go_simp; simpa using n35)
        try simp only [Act.put, List.setIfInBounds_toArray, List.set_cons_zero, List.set_cons_succ, List.getElem_toArray, List.getElem_cons_zero, List.getElem_cons_succ]
        refine wpAnyH_take (i := 22) (v := .bool false) rfl (by kernel_rfl) (by kernel_rfl) (by kernel_rfl) (fun _ _ _ h => h) (Or.inl ⟨by rfl, ?hy22c4⟩) (by assumption) ?rest22c4
        case hy22c4 =>
          intro w' hSw
          (try dsimp only at hSw)
          obtain ⟨s0, s1, s2, s3⟩ := hSw
          first | (go_simp; done) | (go_simp; simp [n20, n21, n35]; done) | (go_simp; simpa using n20) | (go_simp; simpa using n35)
        try simp only [Act.put, List.setIfInBounds_toArray, List.set_cons_zero, List.set_cons_succ, List.getElem_toArray, List.getElem_cons_zero, List.getElem_cons_succ]
        refine wpAnyH_take (i := 23) (v := .bool false) rfl (by kernel_rfl) (by kernel_rfl) (by kernel_rfl) (fun _ _ _ h => h) (Or.inl ⟨by rfl, ?hy23c4⟩) (by assumption) ?rest23c4
        case hy23c4 =>
          intro w' hSw
          (try dsimp only at hSw)
          obtain ⟨s0, s1, s2, s3⟩ := hSw
          first | (go_simp; done) | (go_simp; simp [n20, n21, n35]; done) | (go_simp; simpa using n20) | (go_simp; simpa using n35)
        try simp only [Act.put, List.setIfInBounds_toArray, List.set_cons_zero, List.set_cons_succ, List.getElem_toArray, List.getElem_cons_zero, List.getElem_cons_succ]
        refine wpAnyH_take (i := 24) (v := .bool false) rfl (by kernel_rfl) (by kernel_rfl) (by kernel_rfl) (fun _ _ _ h => h) (Or.inl ⟨by rfl, ?hy24c4⟩) (by assumption) ?rest24c4
        case hy24c4 =>
          intro w' hSw
          (try dsimp only at hSw)
          obtain ⟨s0, s1, s2, s3⟩ := hSw
          first | (go_simp; done) | (go_simp; simp [n20, n21, n35]; done) | (go_simp; simpa using n20) | (go_simp; simpa using n35)
        try simp only [Act.put, List.setIfInBounds_toArray, List.set_cons_zero, List.set_cons_succ, List.getElem_toArray, List.getElem_cons_zero, List.getElem_cons_succ]
        refine wpAnyH_take (i := 25) (v := .bool false) rfl (by kernel_rfl) (by kernel_rfl) (by kernel_rfl) (fun _ _ _ h => h) (Or.inl ⟨by rfl, ?hy25c4⟩) (by assumption) ?rest25c4
        case hy25c4 =>
          intro w' hSw
          (try dsimp only at hSw)
          obtain ⟨s0, s1, s2, s3⟩ := hSw
          first | (go_simp; done) | (go_simp; simp [n20, n21, n35]; done) | (go_simp; simpa using n20) | (go_simp; simpa using n35)
        try simp only [Act.put, List.setIfInBounds_toArray, List.set_cons_zero, List.set_cons_succ, List.getElem_toArray, List.getElem_cons_zero, List.getElem_cons_succ]
        refine wpAnyH_take (i := 26) (v := .int .i64 op) rfl (by kernel_rfl) (by kernel_rfl) (by kernel_rfl) (fun _ _ _ h => h) (Or.inl ⟨by rfl, ?hy26c4⟩) (by assumption) ?rest26c4
        case hy26c4 =>
          intro w' hSw
          (try dsimp only at hSw)
          obtain ⟨s0, s1, s2, s3⟩ := hSw
          first | (go_simp; done) | (go_simp; simp [n20, n21, n35]; done) | (go_simp; simpa using n20) | (go_simp; simpa using n35)
        try simp only [Act.put, List.setIfInBounds_toArray, List.set_cons_zero, List.set_cons_succ, List.getElem_toArray, List.getElem_cons_zero, List.getElem_cons_succ]
        refine wpAnyH_take (i := 27) (v := .bool false) rfl (by kernel_rfl) (by kernel_rfl) (by kernel_rfl) (fun _ _ _ h => h) (Or.inl ⟨by rfl, ?hy27c4⟩) (by assumption) ?rest27c4
        case hy27c4 =>
          intro w' hSw
          (try dsimp only at hSw)
          obtain ⟨s0, s1, s2, s3⟩ := hSw
          first | (go_simp; done) | (go_simp; simp [n20, n21, n35]; done) | (go_simp; simpa using n20) | (go_simp; simpa using n35)
        try simp only [Act.put, List.setIfInBounds_toArray, List.set_cons_zero, List.set_cons_succ, List.getElem_toArray, List.getElem_cons_zero, List.getElem_cons_succ]
        refine wpAnyH_take (i := 28) (v := .bool false) rfl (by kernel_rfl) (by kernel_rfl) (by kernel_rfl) (fun _ _ _ h => h) (Or.inl ⟨by rfl, ?hy28c4⟩) (by assumption) ?rest28c4
        case hy28c4 =>
          intro w' hSw
          (try dsimp only at hSw)
          obtain ⟨s0, s1, s2, s3⟩ := hSw
          first | (go_simp; done) | (go_simp; simp [n20, n21, n35]; done) | (go_simp; simpa using n20) | (go_simp; simpa using n35)
        try simp only [Act.put, List.setIfInBounds_toArray, List.set_cons_zero, List.set_cons_succ, List.getElem_toArray, List.getElem_cons_zero, List.getElem_cons_succ]
        refine wpAnyH_take (i := 29) (v := .int .i64 op) rfl (by kernel_rfl) (by kernel_rfl) (by kernel_rfl) (fun _ _ _ h => h) (Or.inl ⟨by rfl, ?hy29c4⟩) (by assumption) ?rest29c4
        case hy29c4 =>
          intro w' hSw
          (try dsimp only at hSw)
          obtain ⟨s0, s1, s2, s3⟩ := hSw
          first | (go_simp; done) | (go_simp; simp [n20, n21, n35]; done) | (go_simp; simpa using n20) | (go_simp; simpa using n35)
        try simp only [Act.put, List.setIfInBounds_toArray, List.set_cons_zero, List.set_cons_succ, List.getElem_toArray, List.getElem_cons_zero, List.getElem_cons_succ]
        refine wpAnyH_take (i := 30) (v := .bool false) rfl (by kernel_rfl) (by kernel_rfl) (by kernel_rfl) (fun _ _ _ h => h) (Or.inl ⟨by rfl, ?hy30c4⟩) (by assumption) ?rest30c4
        case hy30c4 =>
          intro w' hSw
          (try dsimp only at hSw)
          obtain ⟨s0, s1, s2, s3⟩ := hSw
          first | (go_simp; done) | (go_simp; simp [n20, n21, n35]; done) | (go_simp; simpa using n20) | (go_simp; simpa using n35)
        try simp only [Act.put, List.setIfInBounds_toArray, List.set_cons_zero, List.set_cons_succ, List.getElem_toArray, List.getElem_cons_zero, List.getElem_cons_succ]
        refine wpAnyH_take (i := 31) (v := .bool false) rfl (by kernel_rfl) (by kernel_rfl) (by kernel_rfl) (fun _ _ _ h => h) (Or.inl ⟨by rfl, ?hy31c4⟩) (by assumption) ?rest31c4
        case hy31c4 =>
          intro w' hSw
          (try dsimp only at hSw)
          obtain ⟨s0, s1, s2, s3⟩ := hSw
          first | (go_simp; done) | (go_simp; simp [n20, n21, n35]; done) | (go_simp; simpa using n20) | (go_simp; simpa using n35)
        try simp only [Act.put, List.setIfInBounds_toArray, List.set_cons_zero, List.set_cons_succ, List.getElem_toArray, List.getElem_cons_zero, List.getElem_cons_succ]
        refine wpAnyH_take (i := 32) (v := .bool false) rfl (by kernel_rfl) (by kernel_rfl) (by kernel_rfl) (fun _ _ _ h => h) (Or.inl ⟨by rfl, ?hy32c4⟩) (by assumption) ?rest32c4
        case hy32c4 =>
          intro w' hSw
          (try dsimp only at hSw)
          obtain ⟨s0, s1, s2, s3⟩ := hSw
          first | (go_simp; done) | (go_simp; simp [n20, n21, n35]; done) | (go_simp; simpa using n20) | (go_simp; simpa using n35)
        try simp only [Act.put, List.setIfInBounds_toArray, List.set_cons_zero, List.set_cons_succ, List.getElem_toArray, List.getElem_cons_zero, List.getElem_cons_succ]
        refine wpAnyH_take (i := 33) (v := .bool false) rfl (by kernel_rfl) (by kernel_rfl) (by kernel_rfl) (fun _ _ _ h => h) (Or.inl ⟨by rfl, ?hy33c4⟩) (by assumption) ?rest33c4
        case hy33c4 =>
          intro w' hSw
          (try dsimp only at hSw)
          obtain ⟨s0, s1, s2, s3⟩ := hSw
          first | (go_simp; done) | (go_simp; simp [n20, n21, n35]; done) | (go_simp; simpa using n20) | (go_simp; simpa using n35)
        try simp only [Act.put, List.setIfInBounds_toArray, List.set_cons_zero, List.set_cons_succ, List.getElem_toArray, List.getElem_cons_zero, List.getElem_cons_succ]
        refine wpAnyH_take (i := 34) (v := .bool false) rfl (by kernel_rfl) (by kernel_rfl) (by kernel_rfl) (fun _ _ _ h => h) (Or.inl ⟨by rfl, ?hy34c4⟩) (by assumption) ?rest34c4
        case hy34c4 =>
          intro w' hSw
          (try dsimp only at hSw)
          obtain ⟨s0, s1, s2, s3⟩ := hSw
          first | (go_simp; done) | (go_simp; simp [n20, n21, n35]; done) | (go_simp; simpa using n20) | (go_simp; simpa using n35)
        try simp only [Act.put, List.setIfInBounds_toArray, List.set_cons_zero, List.set_cons_succ, List.getElem_toArray, List.getElem_cons_zero, List.getElem_cons_succ]
        refine wpAnyH_take (i := 35) (v := .bool false) rfl (by kernel_rfl) (by kernel_rfl) (by kernel_rfl) (fun _ _ _ h => h) (Or.inl ⟨by rfl, ?hy35c4⟩) (by assumption) ?rest35c4
        case hy35c4 =>
          intro w' hSw
          (try dsimp only at hSw)
          obtain ⟨s0, s1, s2, s3⟩ := hSw
          first | (go_simp; done) | (go_simp; simp [n20, n21, n35]; done) | (go_simp; simpa using n20) | (go_simp; simpa using n35)
        try simp only [Act.put, List.setIfInBounds_toArray, List.set_cons_zero, List.set_cons_succ, List.getElem_toArray, List.getElem_cons_zero, List.getElem_cons_succ]
        refine wpAnyH_take (i := 36) (v := .bool false) rfl (by kernel_rfl) (by kernel_rfl) (by kernel_rfl) (fun _ _ _ h => h) (Or.inl ⟨by rfl, ?hy36c4⟩) (by assumption) ?rest36c4
        case hy36c4 =>
          intro w' hSw
          (try dsimp only at hSw)
          obtain ⟨s0, s1, s2, s3⟩ := hSw
          first | (go_simp; done) | (go_simp; simp [n20, n21, n35]; done) | (go_simp; simpa using n20) | (go_simp; simpa using n35)
        try simp only [Act.put, List.setIfInBounds_toArray, List.set_cons_zero, List.set_cons_succ, List.getElem_toArray, List.getElem_cons_zero, List.getElem_cons_succ]
        refine wpAnyH_take (i := 37) (v := .bool false) rfl (by kernel_rfl) (by kernel_rfl) (by kernel_rfl) (fun _ _ _ h => h) (Or.inl ⟨by rfl, ?hy37c4⟩) (by assumption) ?rest37c4
        case hy37c4 =>
          intro w' hSw
          (try dsimp only at hSw)
          obtain ⟨s0, s1, s2, s3⟩ := hSw
          first | (go_simp; done) | (go_simp; simp [n20, n21, n35]; done) | (go_simp; simpa using n20) | (go_simp; simpa using n35)
        try simp only [Act.put, List.setIfInBounds_toArray, List.set_cons_zero, List.set_cons_succ, List.getElem_toArray, List.getElem_cons_zero, List.getElem_cons_succ]
        refine wpAnyH_take (i := 38) (v := undef) rfl (by kernel_rfl) (by kernel_rfl) (by kernel_rfl) (fun _ _ _ h => h) (Or.inr ⟨by rfl, rfl⟩) (by assumption) ?_
        try simp only [Act.put, List.setIfInBounds_toArray, List.set_cons_zero, List.set_cons_succ, List.getElem_toArray, List.getElem_cons_zero, List.getElem_cons_succ]
        refine wpAnyH_take (i := 39) (v := undef) rfl (by kernel_rfl) (by kernel_rfl) (by kernel_rfl) (fun _ _ _ h => h) (Or.inr ⟨by rfl, rfl⟩) (by assumption) ?_
        try simp only [Act.put, List.setIfInBounds_toArray, List.set_cons_zero, List.set_cons_succ, List.getElem_toArray, List.getElem_cons_zero, List.getElem_cons_succ]
        refine wpAnyH_take (i := 40) (v := .bool false) rfl (by kernel_rfl) (by kernel_rfl) (by kernel_rfl) (fun _ _ _ h => h) (Or.inl ⟨by rfl, ?hy40c4⟩) (by assumption) ?rest40c4
        case hy40c4 =>
          intro w' hSw
          (try dsimp only at hSw)
          obtain ⟨s0, s1, s2, s3⟩ := hSw
          first | (go_simp; done) | (go_simp; simp [n20, n21, n35]; done) | (go_simp; simpa using n20) | (go_simp; simpa using n35)
        try simp only [Act.put, List.setIfInBounds_toArray, List.set_cons_zero, List.set_cons_succ, List.getElem_toArray, List.getElem_cons_zero, List.getElem_cons_succ]
        refine wpAnyH_take (i := 41) (v := .bool false) rfl (by kernel_rfl) (by kernel_rfl) (by kernel_rfl) (fun _ _ _ h => h) (Or.inl ⟨by rfl, ?hy41c4⟩) (by assumption) ?rest41c4
        case hy41c4 =>
          intro w' hSw
          (try dsimp only at hSw)
          obtain ⟨s0, s1, s2, s3⟩ := hSw
          first | (go_simp; done) | (go_simp; simp [n20, n21, n35]; done) | (go_simp; simpa using n20) | (go_simp; simpa using n35)
        try simp only [Act.put, List.setIfInBounds_toArray, List.set_cons_zero, List.set_cons_succ, List.getElem_toArray, List.getElem_cons_zero, List.getElem_cons_succ]
        refine wpAnyH_take (i := 42) (v := undef) rfl (by kernel_rfl) (by kernel_rfl) (by kernel_rfl) (fun _ _ _ h => h) (Or.inr ⟨by rfl, rfl⟩) (by assumption) ?_
        try simp only [Act.put, List.setIfInBounds_toArray, List.set_cons_zero, List.set_cons_succ, List.getElem_toArray, List.getElem_cons_zero, List.getElem_cons_succ]
        refine wpAnyH_take (i := 43) (v := undef) rfl (by kernel_rfl) (by kernel_rfl) (by kernel_rfl) (fun _ _ _ h => h) (Or.inr ⟨by rfl, rfl⟩) (by assumption) ?_
        try simp only [Act.put, List.setIfInBounds_toArray, List.set_cons_zero, List.set_cons_succ, List.getElem_toArray, List.getElem_cons_zero, List.getElem_cons_succ]
        refine wpAnyH_take (i := 44) (v := .bool false) rfl (by kernel_rfl) (by kernel_rfl) (by kernel_rfl) (fun _ _ _ h => h) (Or.inl ⟨by rfl, ?hy44c4⟩) (by assumption) ?rest44c4
        case hy44c4 =>
          intro w' hSw
          (try dsimp only at hSw)
          obtain ⟨s0, s1, s2, s3⟩ := hSw
          first | (go_simp; done) | (go_simp; simp [n20, n21, n35]; done) | (go_simp; simpa using n20) | (go_simp; simpa using n35)
        try simp only [Act.put, List.setIfInBounds_toArray, List.set_cons_zero, List.set_cons_succ, List.getElem_toArray, List.getElem_cons_zero, List.getElem_cons_succ]
        refine wpAnyH_take (i := 45) (v := .bool false) rfl (by kernel_rfl) (by kernel_rfl) (by kernel_rfl) (fun _ _ _ h => h) (Or.inl ⟨by rfl, ?hy45c4⟩) (by assumption) ?rest45c4
        case hy45c4 =>
          intro w' hSw
          (try dsimp only at hSw)
          obtain ⟨s0, s1, s2, s3⟩ := hSw
          first | (go_simp; done) | (go_simp; simp [n20, n21, n35]; done) | (go_simp; simpa using n20) | (go_simp; simpa using n35)
        try simp only [Act.put, List.setIfInBounds_toArray, List.set_cons_zero, List.set_cons_succ, List.getElem_toArray, List.getElem_cons_zero, List.getElem_cons_succ]
        refine wpAnyH_take (i := 46) (v := .bool false) rfl (by kernel_rfl) (by kernel_rfl) (by kernel_rfl) (fun _ _ _ h => h) (Or.inl ⟨by rfl, ?hy46c4⟩) (by assumption) ?rest46c4
        case hy46c4 =>
          intro w' hSw
          (try dsimp only at hSw)
          obtain ⟨s0, s1, s2, s3⟩ := hSw
          first | (go_simp; done) | (go_simp; simp [n20, n21, n35]; done) | (go_simp; simpa using n20) | (go_simp; simpa using n35)
        try simp only [Act.put, List.setIfInBounds_toArray, List.set_cons_zero, List.set_cons_succ, List.getElem_toArray, List.getElem_cons_zero, List.getElem_cons_succ]
        refine wpAnyH_done (by kernel_rfl) ?_ _
        go_wp2_with fail
        go_meet
        exact ⟨rfl, Hf6.out⟩
      · rw [n20, n21, n35]
        simp only [Bool.or_true, Bool.true_or, Bool.or_false, Bool.false_or, Bool.not_true, Bool.not_false, Bool.and_true, Bool.and_false, Bool.true_and, Bool.false_and]
        refine wp_region_held_drew (S := fun w' => w'.cell? ⟨bb, 0, none⟩ = some (.string ⟨rw_.toArray⟩) ∧ w'.cell? ⟨bb, 1, none⟩ = some (.int .i64 ra) ∧ w'.cell? ⟨bb, 2, none⟩ = some (.int .i64 rt) ∧ w'.cell? ⟨bb, 3, none⟩ = some (.int .i64 rl)) (by kernel_rfl) (blk4_cells Hb4.out.drew) (fun hHeld => ?_)
        refine wpAnyH_take (i := 0) (v := .int .i64 op) rfl (by kernel_rfl) (by kernel_rfl) (by kernel_rfl) (fun _ _ _ h => h) (Or.inl ⟨by rfl, ?hy0c5⟩) (by assumption) ?rest0c5
        case hy0c5 =>
          intro w' hSw
          (try dsimp only at hSw)
          obtain ⟨s0, s1, s2, s3⟩ := hSw
          first | (go_simp; done) | (go_simp; simp [n20, n21, n35]; done) | (go_simp; simpa using n20) | (go_simp; simpa using n35)
        try simp only [Act.put, List.setIfInBounds_toArray, List.set_cons_zero, List.set_cons_succ, List.getElem_toArray, List.getElem_cons_zero, List.getElem_cons_succ]
        refine wpAnyH_take (i := 2) (v := .pointer (some ⟨bb, 0, none⟩)) rfl (by kernel_rfl) (by kernel_rfl) (by kernel_rfl) (fun _ _ _ h => h) (Or.inl ⟨by rfl, ?hy2c5⟩) (by assumption) ?rest2c5
        case hy2c5 =>
          intro w' hSw
          (try dsimp only at hSw)
          obtain ⟨s0, s1, s2, s3⟩ := hSw
          first | (go_simp; done) | (go_simp; simp [n20, n21, n35]; done) | (go_simp; simpa using n20) | (go_simp; simpa using n35)
        try simp only [Act.put, List.setIfInBounds_toArray, List.set_cons_zero, List.set_cons_succ, List.getElem_toArray, List.getElem_cons_zero, List.getElem_cons_succ]
        refine wpAnyH_take (i := 3) (v := .string ⟨rw_.toArray⟩) rfl (by kernel_rfl) (by kernel_rfl) (by kernel_rfl) (fun _ _ _ h => h) (Or.inl ⟨by rfl, ?hy3c5⟩) (by assumption) ?rest3c5
        case hy3c5 =>
          intro w' hSw
          (try dsimp only at hSw)
          obtain ⟨s0, s1, s2, s3⟩ := hSw
          first | (go_simp; done) | (go_simp; simp [n20, n21, n35]; done) | (go_simp; simpa using n20) | (go_simp; simpa using n35)
        try simp only [Act.put, List.setIfInBounds_toArray, List.set_cons_zero, List.set_cons_succ, List.getElem_toArray, List.getElem_cons_zero, List.getElem_cons_succ]
        refine wpAnyH_ready (rs := [1]) (by kernel_rfl) (by simp) ?_
        refine AllReadyH.cons rfl (fun K hK => ?_) ?_
        rotate_left
        · exact AllReadyH.nil
        go_simp
        go_at_call 12
        refine (HN.out _ Hf4.out.drew).mono ?_
        rintro e w5 ⟨rfl, hf5⟩
        have Hb5 := hide (Hb4.out.drew.fr0 hf5)
        have Hf5 := hide (Hf4.out.drew.trans hf5)
        clear hf5
        go_wp2_with fail
        refine hK.out _ _ (blk4_cells Hb5.out) (fun hHeld5 => ?_)
        clear hHeld
        clear hK K
        try simp only [Act.put, List.setIfInBounds_toArray, List.set_cons_zero, List.set_cons_succ, List.getElem_toArray, List.getElem_cons_zero, List.getElem_cons_succ]
        refine wpAnyH_take (i := 4) (v := .bool false) rfl (by kernel_rfl) (by kernel_rfl) (by kernel_rfl) (fun _ _ _ h => h) (Or.inl ⟨by rfl, ?hy4c5⟩) (by assumption) ?rest4c5
        case hy4c5 =>
          intro w' hSw
          (try dsimp only at hSw)
          obtain ⟨s0, s1, s2, s3⟩ := hSw
          first | (go_simp; done) | (go_simp; simp [n20, n21, n35]; done) | (go_simp; simpa using n20) | (go_simp; simpa using n35)
        try simp only [Act.put, List.setIfInBounds_toArray, List.set_cons_zero, List.set_cons_succ, List.getElem_toArray, List.getElem_cons_zero, List.getElem_cons_succ]
        refine wpAnyH_take (i := 5) (v := .bool false) rfl (by kernel_rfl) (by kernel_rfl) (by kernel_rfl) (fun _ _ _ h => h) (Or.inl ⟨by rfl, ?hy5c5⟩) (by assumption) ?rest5c5
        case hy5c5 =>
          intro w' hSw
          (try dsimp only at hSw)
          obtain ⟨s0, s1, s2, s3⟩ := hSw
          first | (go_simp; done) | (go_simp; simp [n20, n21, n35]; done) | (go_simp; simpa using n20) | (go_simp; simpa using n35)
        try simp only [Act.put, List.setIfInBounds_toArray, List.set_cons_zero, List.set_cons_succ, List.getElem_toArray, List.getElem_cons_zero, List.getElem_cons_succ]
        refine wpAnyH_take (i := 6) (v := .int .i64 op) rfl (by kernel_rfl) (by kernel_rfl) (by kernel_rfl) (fun _ _ _ h => h) (Or.inl ⟨by rfl, ?hy6c5⟩) (by assumption) ?rest6c5
        case hy6c5 =>
          intro w' hSw
          (try dsimp only at hSw)
          obtain ⟨s0, s1, s2, s3⟩ := hSw
          first | (go_simp; done) | (go_simp; simp [n20, n21, n35]; done) | (go_simp; simpa using n20) | (go_simp; simpa using n35)
        try simp only [Act.put, List.setIfInBounds_toArray, List.set_cons_zero, List.set_cons_succ, List.getElem_toArray, List.getElem_cons_zero, List.getElem_cons_succ]
        refine wpAnyH_take (i := 8) (v := .pointer (some ⟨bb, 1, none⟩)) rfl (by kernel_rfl) (by kernel_rfl) (by kernel_rfl) (fun _ _ _ h => h) (Or.inl ⟨by rfl, ?hy8c5⟩) (by assumption) ?rest8c5
        case hy8c5 =>
          intro w' hSw
          (try dsimp only at hSw)
          obtain ⟨s0, s1, s2, s3⟩ := hSw
          first | (go_simp; done) | (go_simp; simp [n20, n21, n35]; done) | (go_simp; simpa using n20) | (go_simp; simpa using n35)
        try simp only [Act.put, List.setIfInBounds_toArray, List.set_cons_zero, List.set_cons_succ, List.getElem_toArray, List.getElem_cons_zero, List.getElem_cons_succ]
        refine wpAnyH_take (i := 9) (v := .int .i64 ra) rfl (by kernel_rfl) (by kernel_rfl) (by kernel_rfl) (fun _ _ _ h => h) (Or.inl ⟨by rfl, ?hy9c5⟩) (by assumption) ?rest9c5
        case hy9c5 =>
          intro w' hSw
          (try dsimp only at hSw)
          obtain ⟨s0, s1, s2, s3⟩ := hSw
          first | (go_simp; done) | (go_simp; simp [n20, n21, n35]; done) | (go_simp; simpa using n20) | (go_simp; simpa using n35)
        try simp only [Act.put, List.setIfInBounds_toArray, List.set_cons_zero, List.set_cons_succ, List.getElem_toArray, List.getElem_cons_zero, List.getElem_cons_succ]
        refine wpAnyH_ready (rs := [7]) (by kernel_rfl) (by simp) ?_
        refine AllReadyH.cons rfl (fun K hK => ?_) ?_
        rotate_left
        · exact AllReadyH.nil
        go_simp
        go_at_call 13
        refine (HG.out _ Hf5.out).mono ?_
        rintro e w6 ⟨rfl, hf6⟩
        have Hb6 := hide (Hb5.out.fr0 hf6)
        have Hf6 := hide (Hf5.out.trans hf6)
        clear hf6
        go_wp2_with fail
        refine hK.out _ _ (blk4_cells Hb6.out) (fun hHeld6 => ?_)
        clear hHeld5
        clear hK K
        try simp only [Act.put, List.setIfInBounds_toArray, List.set_cons_zero, List.set_cons_succ, List.getElem_toArray, List.getElem_cons_zero, List.getElem_cons_succ]
        refine wpAnyH_take (i := 10) (v := .bool false) rfl (by kernel_rfl) (by kernel_rfl) (by kernel_rfl) (fun _ _ _ h => h) (Or.inl ⟨by rfl, ?hy10c5⟩) (by assumption) ?rest10c5
        case hy10c5 =>
          intro w' hSw
          (try dsimp only at hSw)
          obtain ⟨s0, s1, s2, s3⟩ := hSw
          first | (go_simp; done) | (go_simp; simp [n20, n21, n35]; done) | (go_simp; simpa using n20) | (go_simp; simpa using n35)
        try simp only [Act.put, List.setIfInBounds_toArray, List.set_cons_zero, List.set_cons_succ, List.getElem_toArray, List.getElem_cons_zero, List.getElem_cons_succ]
        refine wpAnyH_take (i := 11) (v := .bool false) rfl (by kernel_rfl) (by kernel_rfl) (by kernel_rfl) (fun _ _ _ h => h) (Or.inl ⟨by rfl, ?hy11c5⟩) (by assumption) ?rest11c5
        case hy11c5 =>
          intro w' hSw
          (try dsimp only at hSw)
          obtain ⟨s0, s1, s2, s3⟩ := hSw
          first | (go_simp; done) | (go_simp; simp [n20, n21, n35]; done) | (go_simp; simpa using n20) | (go_simp; simpa using n35)
        try simp only [Act.put, List.setIfInBounds_toArray, List.set_cons_zero, List.set_cons_succ, List.getElem_toArray, List.getElem_cons_zero, List.getElem_cons_succ]
        refine wpAnyH_take (i := 12) (v := .bool false) rfl (by kernel_rfl) (by kernel_rfl) (by kernel_rfl) (fun _ _ _ h => h) (Or.inl ⟨by rfl, ?hy12c5⟩) (by assumption) ?rest12c5
        case hy12c5 =>
          intro w' hSw
          (try dsimp only at hSw)
          obtain ⟨s0, s1, s2, s3⟩ := hSw
          first | (go_simp; done) | (go_simp; simp [n20, n21, n35]; done) | (go_simp; simpa using n20) | (go_simp; simpa using n35)
        try simp only [Act.put, List.setIfInBounds_toArray, List.set_cons_zero, List.set_cons_succ, List.getElem_toArray, List.getElem_cons_zero, List.getElem_cons_succ]
        refine wpAnyH_take (i := 13) (v := .int .i64 rt) rfl (by kernel_rfl) (by kernel_rfl) (by kernel_rfl) (fun _ _ _ h => h) (Or.inl ⟨by rfl, ?hy13c5⟩) (by assumption) ?rest13c5
        case hy13c5 =>
          intro w' hSw
          (try dsimp only at hSw)
          obtain ⟨s0, s1, s2, s3⟩ := hSw
          first | (go_simp; done) | (go_simp; simp [n20, n21, n35]; done) | (go_simp; simpa using n20) | (go_simp; simpa using n35)
        try simp only [Act.put, List.setIfInBounds_toArray, List.set_cons_zero, List.set_cons_succ, List.getElem_toArray, List.getElem_cons_zero, List.getElem_cons_succ]
        refine wpAnyH_take (i := 14) (v := .pointer (some ⟨bb, 2, none⟩)) rfl (by kernel_rfl) (by kernel_rfl) (by kernel_rfl) (fun _ _ _ h => h) (Or.inl ⟨by rfl, ?hy14c5⟩) (by assumption) ?rest14c5
        case hy14c5 =>
          intro w' hSw
          (try dsimp only at hSw)
          obtain ⟨s0, s1, s2, s3⟩ := hSw
          first | (go_simp; done) | (go_simp; simp [n20, n21, n35]; done) | (go_simp; simpa using n20) | (go_simp; simpa using n35)
        try simp only [Act.put, List.setIfInBounds_toArray, List.set_cons_zero, List.set_cons_succ, List.getElem_toArray, List.getElem_cons_zero, List.getElem_cons_succ]
        refine wpAnyH_take (i := 15) (v := .int .i64 rt) rfl (by kernel_rfl) (by kernel_rfl) (by kernel_rfl) (fun _ _ _ h => h) (Or.inl ⟨by rfl, ?hy15c5⟩) (by assumption) ?rest15c5
        case hy15c5 =>
          intro w' hSw
          (try dsimp only at hSw)
          obtain ⟨s0, s1, s2, s3⟩ := hSw
          first | (go_simp; done) | (go_simp; simp [n20, n21, n35]; done) | (go_simp; simpa using n20) | (go_simp; simpa using n35)
        try simp only [Act.put, List.setIfInBounds_toArray, List.set_cons_zero, List.set_cons_succ, List.getElem_toArray, List.getElem_cons_zero, List.getElem_cons_succ]
        refine wpAnyH_take (i := 16) (v := .bool false) rfl (by kernel_rfl) (by kernel_rfl) (by kernel_rfl) (fun _ _ _ h => h) (Or.inl ⟨by rfl, ?hy16c5⟩) (by assumption) ?rest16c5
        case hy16c5 =>
          intro w' hSw
          (try dsimp only at hSw)
          obtain ⟨s0, s1, s2, s3⟩ := hSw
          first | (go_simp; done) | (go_simp; simp [n20, n21, n35]; done) | (go_simp; simpa using n20) | (go_simp; simpa using n35)
        try simp only [Act.put, List.setIfInBounds_toArray, List.set_cons_zero, List.set_cons_succ, List.getElem_toArray, List.getElem_cons_zero, List.getElem_cons_succ]
        refine wpAnyH_take (i := 17) (v := .bool false) rfl (by kernel_rfl) (by kernel_rfl) (by kernel_rfl) (fun _ _ _ h => h) (Or.inl ⟨by rfl, ?hy17c5⟩) (by assumption) ?rest17c5
        case hy17c5 =>
          intro w' hSw
          (try dsimp only at hSw)
          obtain ⟨s0, s1, s2, s3⟩ := hSw
          first | (go_simp; done) | (go_simp; simp [n20, n21, n35]; done) | (go_simp; simpa using n20) | (go_simp; simpa using n35)
        try simp only [Act.put, List.setIfInBounds_toArray, List.set_cons_zero, List.set_cons_succ, List.getElem_toArray, List.getElem_cons_zero, List.getElem_cons_succ]
        refine wpAnyH_take (i := 18) (v := .bool false) rfl (by kernel_rfl) (by kernel_rfl) (by kernel_rfl) (fun _ _ _ h => h) (Or.inl ⟨by rfl, ?hy18c5⟩) (by assumption) ?rest18c5
        case hy18c5 =>
          intro w' hSw
          (try dsimp only at hSw)
          obtain ⟨s0, s1, s2, s3⟩ := hSw
          first | (go_simp; done) | (go_simp; simp [n20, n21, n35]; done) | (go_simp; simpa using n20) | (go_simp; simpa using n35)
        try simp only [Act.put, List.setIfInBounds_toArray, List.set_cons_zero, List.set_cons_succ, List.getElem_toArray, List.getElem_cons_zero, List.getElem_cons_succ]
        refine wpAnyH_take (i := 19) (v := .int .i64 rl) rfl (by kernel_rfl) (by kernel_rfl) (by kernel_rfl) (fun _ _ _ h => h) (Or.inl ⟨by rfl, ?hy19c5⟩) (by assumption) ?rest19c5
        case hy19c5 =>
          intro w' hSw
          (try dsimp only at hSw)
          obtain ⟨s0, s1, s2, s3⟩ := hSw
          first | (go_simp; done) | (go_simp; simp [n20, n21, n35]; done) | (go_simp; simpa using n20) | (go_simp; simpa using n35)
        try simp only [Act.put, List.setIfInBounds_toArray, List.set_cons_zero, List.set_cons_succ, List.getElem_toArray, List.getElem_cons_zero, List.getElem_cons_succ]
        refine wpAnyH_take (i := 20) (v := .pointer (some ⟨bb, 3, none⟩)) rfl (by kernel_rfl) (by kernel_rfl) (by kernel_rfl) (fun _ _ _ h => h) (Or.inl ⟨by rfl, ?hy20c5⟩) (by assumption) ?rest20c5
        case hy20c5 =>
          intro w' hSw
          (try dsimp only at hSw)
          obtain ⟨s0, s1, s2, s3⟩ := hSw
          first | (go_simp; done) | (go_simp; simp [n20, n21, n35]; done) | (go_simp; simpa using n20) | (go_simp; simpa using n35)
        try simp only [Act.put, List.setIfInBounds_toArray, List.set_cons_zero, List.set_cons_succ, List.getElem_toArray, List.getElem_cons_zero, List.getElem_cons_succ]
        refine wpAnyH_take (i := 21) (v := .int .i64 rl) rfl (by kernel_rfl) (by kernel_rfl) (by kernel_rfl) (fun _ _ _ h => h) (Or.inl ⟨by rfl, ?hy21c5⟩) (by assumption) ?rest21c5
        case hy21c5 =>
          intro w' hSw
          (try dsimp only at hSw)
          obtain ⟨s0, s1, s2, s3⟩ := hSw
          first | (go_simp; done) | (go_simp; simp [n20, n21, n35]; done) | (go_simp; simpa using n20) | (go_simp; simpa using n35)
        try simp only [Act.put, List.setIfInBounds_toArray, List.set_cons_zero, List.set_cons_succ, List.getElem_toArray, List.getElem_cons_zero, List.getElem_cons_succ]
        refine wpAnyH_take (i := 22) (v := .bool false) rfl (by kernel_rfl) (by kernel_rfl) (by kernel_rfl) (fun _ _ _ h => h) (Or.inl ⟨by rfl, ?hy22c5⟩) (by assumption) ?rest22c5
        case hy22c5 =>
          intro w' hSw
          (try dsimp only at hSw)
          obtain ⟨s0, s1, s2, s3⟩ := hSw
          first | (go_simp; done) | (go_simp; simp [n20, n21, n35]; done) | (go_simp; simpa using n20) | (go_simp; simpa using n35)
        try simp only [Act.put, List.setIfInBounds_toArray, List.set_cons_zero, List.set_cons_succ, List.getElem_toArray, List.getElem_cons_zero, List.getElem_cons_succ]
        refine wpAnyH_take (i := 23) (v := .bool false) rfl (by kernel_rfl) (by kernel_rfl) (by kernel_rfl) (fun _ _ _ h => h) (Or.inl ⟨by rfl, ?hy23c5⟩) (by assumption) ?rest23c5
        case hy23c5 =>
          intro w' hSw
          (try dsimp only at hSw)
          obtain ⟨s0, s1, s2, s3⟩ := hSw
          first | (go_simp; done) | (go_simp; simp [n20, n21, n35]; done) | (go_simp; simpa using n20) | (go_simp; simpa using n35)
        try simp only [Act.put, List.setIfInBounds_toArray, List.set_cons_zero, List.set_cons_succ, List.getElem_toArray, List.getElem_cons_zero, List.getElem_cons_succ]
        refine wpAnyH_take (i := 24) (v := .bool false) rfl (by kernel_rfl) (by kernel_rfl) (by kernel_rfl) (fun _ _ _ h => h) (Or.inl ⟨by rfl, ?hy24c5⟩) (by assumption) ?rest24c5
        case hy24c5 =>
          intro w' hSw
          (try dsimp only at hSw)
          obtain ⟨s0, s1, s2, s3⟩ := hSw
          first | (go_simp; done) | (go_simp; simp [n20, n21, n35]; done) | (go_simp; simpa using n20) | (go_simp; simpa using n35)
        try simp only [Act.put, List.setIfInBounds_toArray, List.set_cons_zero, List.set_cons_succ, List.getElem_toArray, List.getElem_cons_zero, List.getElem_cons_succ]
        refine wpAnyH_take (i := 25) (v := .bool false) rfl (by kernel_rfl) (by kernel_rfl) (by kernel_rfl) (fun _ _ _ h => h) (Or.inl ⟨by rfl, ?hy25c5⟩) (by assumption) ?rest25c5
        case hy25c5 =>
          intro w' hSw
          (try dsimp only at hSw)
          obtain ⟨s0, s1, s2, s3⟩ := hSw
          first | (go_simp; done) | (go_simp; simp [n20, n21, n35]; done) | (go_simp; simpa using n20) | (go_simp; simpa using n35)
        try simp only [Act.put, List.setIfInBounds_toArray, List.set_cons_zero, List.set_cons_succ, List.getElem_toArray, List.getElem_cons_zero, List.getElem_cons_succ]
        refine wpAnyH_take (i := 26) (v := .int .i64 op) rfl (by kernel_rfl) (by kernel_rfl) (by kernel_rfl) (fun _ _ _ h => h) (Or.inl ⟨by rfl, ?hy26c5⟩) (by assumption) ?rest26c5
        case hy26c5 =>
          intro w' hSw
          (try dsimp only at hSw)
          obtain ⟨s0, s1, s2, s3⟩ := hSw
          first | (go_simp; done) | (go_simp; simp [n20, n21, n35]; done) | (go_simp; simpa using n20) | (go_simp; simpa using n35)
        try simp only [Act.put, List.setIfInBounds_toArray, List.set_cons_zero, List.set_cons_succ, List.getElem_toArray, List.getElem_cons_zero, List.getElem_cons_succ]
        refine wpAnyH_take (i := 27) (v := .bool false) rfl (by kernel_rfl) (by kernel_rfl) (by kernel_rfl) (fun _ _ _ h => h) (Or.inl ⟨by rfl, ?hy27c5⟩) (by assumption) ?rest27c5
        case hy27c5 =>
          intro w' hSw
          (try dsimp only at hSw)
          obtain ⟨s0, s1, s2, s3⟩ := hSw
          first | (go_simp; done) | (go_simp; simp [n20, n21, n35]; done) | (go_simp; simpa using n20) | (go_simp; simpa using n35)
        try simp only [Act.put, List.setIfInBounds_toArray, List.set_cons_zero, List.set_cons_succ, List.getElem_toArray, List.getElem_cons_zero, List.getElem_cons_succ]
        refine wpAnyH_take (i := 28) (v := .bool false) rfl (by kernel_rfl) (by kernel_rfl) (by kernel_rfl) (fun _ _ _ h => h) (Or.inl ⟨by rfl, ?hy28c5⟩) (by assumption) ?rest28c5
        case hy28c5 =>
          intro w' hSw
          (try dsimp only at hSw)
          obtain ⟨s0, s1, s2, s3⟩ := hSw
          first | (go_simp; done) | (go_simp; simp [n20, n21, n35]; done) | (go_simp; simpa using n20) | (go_simp; simpa using n35)
        try simp only [Act.put, List.setIfInBounds_toArray, List.set_cons_zero, List.set_cons_succ, List.getElem_toArray, List.getElem_cons_zero, List.getElem_cons_succ]
        refine wpAnyH_take (i := 29) (v := .int .i64 op) rfl (by kernel_rfl) (by kernel_rfl) (by kernel_rfl) (fun _ _ _ h => h) (Or.inl ⟨by rfl, ?hy29c5⟩) (by assumption) ?rest29c5
        case hy29c5 =>
          intro w' hSw
          (try dsimp only at hSw)
          obtain ⟨s0, s1, s2, s3⟩ := hSw
          first | (go_simp; done) | (go_simp; simp [n20, n21, n35]; done) | (go_simp; simpa using n20) | (go_simp; simpa using n35)
        try simp only [Act.put, List.setIfInBounds_toArray, List.set_cons_zero, List.set_cons_succ, List.getElem_toArray, List.getElem_cons_zero, List.getElem_cons_succ]
        refine wpAnyH_take (i := 30) (v := .bool false) rfl (by kernel_rfl) (by kernel_rfl) (by kernel_rfl) (fun _ _ _ h => h) (Or.inl ⟨by rfl, ?hy30c5⟩) (by assumption) ?rest30c5
        case hy30c5 =>
          intro w' hSw
          (try dsimp only at hSw)
          obtain ⟨s0, s1, s2, s3⟩ := hSw
          first | (go_simp; done) | (go_simp; simp [n20, n21, n35]; done) | (go_simp; simpa using n20) | (go_simp; simpa using n35)
        try simp only [Act.put, List.setIfInBounds_toArray, List.set_cons_zero, List.set_cons_succ, List.getElem_toArray, List.getElem_cons_zero, List.getElem_cons_succ]
        refine wpAnyH_take (i := 31) (v := .bool false) rfl (by kernel_rfl) (by kernel_rfl) (by kernel_rfl) (fun _ _ _ h => h) (Or.inl ⟨by rfl, ?hy31c5⟩) (by assumption) ?rest31c5
        case hy31c5 =>
          intro w' hSw
          (try dsimp only at hSw)
          obtain ⟨s0, s1, s2, s3⟩ := hSw
          first | (go_simp; done) | (go_simp; simp [n20, n21, n35]; done) | (go_simp; simpa using n20) | (go_simp; simpa using n35)
        try simp only [Act.put, List.setIfInBounds_toArray, List.set_cons_zero, List.set_cons_succ, List.getElem_toArray, List.getElem_cons_zero, List.getElem_cons_succ]
        refine wpAnyH_take (i := 32) (v := .bool false) rfl (by kernel_rfl) (by kernel_rfl) (by kernel_rfl) (fun _ _ _ h => h) (Or.inl ⟨by rfl, ?hy32c5⟩) (by assumption) ?rest32c5
        case hy32c5 =>
          intro w' hSw
          (try dsimp only at hSw)
          obtain ⟨s0, s1, s2, s3⟩ := hSw
          first | (go_simp; done) | (go_simp; simp [n20, n21, n35]; done) | (go_simp; simpa using n20) | (go_simp; simpa using n35)
        try simp only [Act.put, List.setIfInBounds_toArray, List.set_cons_zero, List.set_cons_succ, List.getElem_toArray, List.getElem_cons_zero, List.getElem_cons_succ]
        refine wpAnyH_take (i := 33) (v := .bool false) rfl (by kernel_rfl) (by kernel_rfl) (by kernel_rfl) (fun _ _ _ h => h) (Or.inl ⟨by rfl, ?hy33c5⟩) (by assumption) ?rest33c5
        case hy33c5 =>
          intro w' hSw
          (try dsimp only at hSw)
          obtain ⟨s0, s1, s2, s3⟩ := hSw
          first | (go_simp; done) | (go_simp; simp [n20, n21, n35]; done) | (go_simp; simpa using n20) | (go_simp; simpa using n35)
        try simp only [Act.put, List.setIfInBounds_toArray, List.set_cons_zero, List.set_cons_succ, List.getElem_toArray, List.getElem_cons_zero, List.getElem_cons_succ]
        refine wpAnyH_take (i := 34) (v := .bool false) rfl (by kernel_rfl) (by kernel_rfl) (by kernel_rfl) (fun _ _ _ h => h) (Or.inl ⟨by rfl, ?hy34c5⟩) (by assumption) ?rest34c5
        case hy34c5 =>
          intro w' hSw
          (try dsimp only at hSw)
          obtain ⟨s0, s1, s2, s3⟩ := hSw
          first | (go_simp; done) | (go_simp; simp [n20, n21, n35]; done) | (go_simp; simpa using n20) | (go_simp; simpa using n35)
        try simp only [Act.put, List.setIfInBounds_toArray, List.set_cons_zero, List.set_cons_succ, List.getElem_toArray, List.getElem_cons_zero, List.getElem_cons_succ]
        refine wpAnyH_take (i := 35) (v := .bool true) rfl (by kernel_rfl) (by kernel_rfl) (by kernel_rfl) (fun _ _ _ h => h) (Or.inl ⟨by rfl, ?hy35c5⟩) (by assumption) ?rest35c5
        case hy35c5 =>
          intro w' hSw
          (try dsimp only at hSw)
          obtain ⟨s0, s1, s2, s3⟩ := hSw
          first | (go_simp; done) | (go_simp; simp [n20, n21, n35]; done) | (go_simp; simpa using n20) | (go_simp; simpa using n35)
        try simp only [Act.put, List.setIfInBounds_toArray, List.set_cons_zero, List.set_cons_succ, List.getElem_toArray, List.getElem_cons_zero, List.getElem_cons_succ]
        refine wpAnyH_take (i := 36) (v := .bool true) rfl (by kernel_rfl) (by kernel_rfl) (by kernel_rfl) (fun _ _ _ h => h) (Or.inl ⟨by rfl, ?hy36c5⟩) (by assumption) ?rest36c5
        case hy36c5 =>
          intro w' hSw
          (try dsimp only at hSw)
          obtain ⟨s0, s1, s2, s3⟩ := hSw
          first | (go_simp; done) | (go_simp; simp [n20, n21, n35]; done) | (go_simp; simpa using n20) | (go_simp; simpa using n35)
        try simp only [Act.put, List.setIfInBounds_toArray, List.set_cons_zero, List.set_cons_succ, List.getElem_toArray, List.getElem_cons_zero, List.getElem_cons_succ]
        refine wpAnyH_take (i := 37) (v := .bool true) rfl (by kernel_rfl) (by kernel_rfl) (by kernel_rfl) (fun _ _ _ h => h) (Or.inl ⟨by rfl, ?hy37c5⟩) (by assumption) ?rest37c5
        case hy37c5 =>
          intro w' hSw
          (try dsimp only at hSw)
          obtain ⟨s0, s1, s2, s3⟩ := hSw
          first | (go_simp; done) | (go_simp; simp [n20, n21, n35]; done) | (go_simp; simpa using n20) | (go_simp; simpa using n35)
        try simp only [Act.put, List.setIfInBounds_toArray, List.set_cons_zero, List.set_cons_succ, List.getElem_toArray, List.getElem_cons_zero, List.getElem_cons_succ]
        refine wpAnyH_take (i := 38) (v := .int .i64 op) rfl (by kernel_rfl) (by kernel_rfl) (by kernel_rfl) (fun _ _ _ h => h) (Or.inl ⟨by rfl, ?hy38c5⟩) (by assumption) ?rest38c5
        case hy38c5 =>
          intro w' hSw
          (try dsimp only at hSw)
          obtain ⟨s0, s1, s2, s3⟩ := hSw
          first | (go_simp; done) | (go_simp; simp [n20, n21, n35]; done) | (go_simp; simpa using n20) | (go_simp; simpa using n35)
        try simp only [Act.put, List.setIfInBounds_toArray, List.set_cons_zero, List.set_cons_succ, List.getElem_toArray, List.getElem_cons_zero, List.getElem_cons_succ]
        refine wpAnyH_take (i := 39) (v := .bool true) rfl (by kernel_rfl) (by kernel_rfl) (by kernel_rfl) (fun _ _ _ h => h) (Or.inl ⟨by rfl, ?hy39c5⟩) (by assumption) ?rest39c5
        case hy39c5 =>
          intro w' hSw
          (try dsimp only at hSw)
          obtain ⟨s0, s1, s2, s3⟩ := hSw
          first | (go_simp; done) | (go_simp; simp [n20, n21, n35]; done) | (go_simp; simpa using n20) | (go_simp; simpa using n35)
        try simp only [Act.put, List.setIfInBounds_toArray, List.set_cons_zero, List.set_cons_succ, List.getElem_toArray, List.getElem_cons_zero, List.getElem_cons_succ]
        refine wpAnyH_take (i := 40) (v := .bool true) rfl (by kernel_rfl) (by kernel_rfl) (by kernel_rfl) (fun _ _ _ h => h) (Or.inl ⟨by rfl, ?hy40c5⟩) (by assumption) ?rest40c5
        case hy40c5 =>
          intro w' hSw
          (try dsimp only at hSw)
          obtain ⟨s0, s1, s2, s3⟩ := hSw
          first | (go_simp; done) | (go_simp; simp [n20, n21, n35]; done) | (go_simp; simpa using n20) | (go_simp; simpa using n35)
        try simp only [Act.put, List.setIfInBounds_toArray, List.set_cons_zero, List.set_cons_succ, List.getElem_toArray, List.getElem_cons_zero, List.getElem_cons_succ]
        refine wpAnyH_take (i := 41) (v := .bool true) rfl (by kernel_rfl) (by kernel_rfl) (by kernel_rfl) (fun _ _ _ h => h) (Or.inl ⟨by rfl, ?hy41c5⟩) (by assumption) ?rest41c5
        case hy41c5 =>
          intro w' hSw
          (try dsimp only at hSw)
          obtain ⟨s0, s1, s2, s3⟩ := hSw
          first | (go_simp; done) | (go_simp; simp [n20, n21, n35]; done) | (go_simp; simpa using n20) | (go_simp; simpa using n35)
        try simp only [Act.put, List.setIfInBounds_toArray, List.set_cons_zero, List.set_cons_succ, List.getElem_toArray, List.getElem_cons_zero, List.getElem_cons_succ]
        refine wpAnyH_take (i := 42) (v := .int .i64 op) rfl (by kernel_rfl) (by kernel_rfl) (by kernel_rfl) (fun _ _ _ h => h) (Or.inl ⟨by rfl, ?hy42c5⟩) (by assumption) ?rest42c5
        case hy42c5 =>
          intro w' hSw
          (try dsimp only at hSw)
          obtain ⟨s0, s1, s2, s3⟩ := hSw
          first | (go_simp; done) | (go_simp; simp [n20, n21, n35]; done) | (go_simp; simpa using n20) | (go_simp; simpa using n35)
        try simp only [Act.put, List.setIfInBounds_toArray, List.set_cons_zero, List.set_cons_succ, List.getElem_toArray, List.getElem_cons_zero, List.getElem_cons_succ]
        refine wpAnyH_take (i := 43) (v := .bool true) rfl (by kernel_rfl) (by kernel_rfl) (by kernel_rfl) (fun _ _ _ h => h) (Or.inl ⟨by rfl, ?hy43c5⟩) (by assumption) ?rest43c5
        case hy43c5 =>
          intro w' hSw
          (try dsimp only at hSw)
          obtain ⟨s0, s1, s2, s3⟩ := hSw
          first | (go_simp; done) | (go_simp; simp [n20, n21, n35]; done) | (go_simp; simpa using n20) | (go_simp; simpa using n35)
        try simp only [Act.put, List.setIfInBounds_toArray, List.set_cons_zero, List.set_cons_succ, List.getElem_toArray, List.getElem_cons_zero, List.getElem_cons_succ]
        refine wpAnyH_take (i := 44) (v := .bool true) rfl (by kernel_rfl) (by kernel_rfl) (by kernel_rfl) (fun _ _ _ h => h) (Or.inl ⟨by rfl, ?hy44c5⟩) (by assumption) ?rest44c5
        case hy44c5 =>
          intro w' hSw
          (try dsimp only at hSw)
          obtain ⟨s0, s1, s2, s3⟩ := hSw
          first | (go_simp; done) | (go_simp; simp [n20, n21, n35]; done) | (go_simp; simpa using n20) | (go_simp; simpa using n35)
        try simp only [Act.put, List.setIfInBounds_toArray, List.set_cons_zero, List.set_cons_succ, List.getElem_toArray, List.getElem_cons_zero, List.getElem_cons_succ]
        refine wpAnyH_take (i := 45) (v := .bool false) rfl (by kernel_rfl) (by kernel_rfl) (by kernel_rfl) (fun _ _ _ h => h) (Or.inl ⟨by rfl, ?hy45c5⟩) (by assumption) ?rest45c5
        case hy45c5 =>
          intro w' hSw
          (try dsimp only at hSw)
          obtain ⟨s0, s1, s2, s3⟩ := hSw
          first | (go_simp; done) | (go_simp; simp [n20, n21, n35]; done) | (go_simp; simpa using n20) | (go_simp; simpa using n35)
        try simp only [Act.put, List.setIfInBounds_toArray, List.set_cons_zero, List.set_cons_succ, List.getElem_toArray, List.getElem_cons_zero, List.getElem_cons_succ]
        refine wpAnyH_take (i := 46) (v := .bool false) rfl (by kernel_rfl) (by kernel_rfl) (by kernel_rfl) (fun _ _ _ h => h) (Or.inl ⟨by rfl, ?hy46c5⟩) (by assumption) ?rest46c5
        case hy46c5 =>
          intro w' hSw
          (try dsimp only at hSw)
          obtain ⟨s0, s1, s2, s3⟩ := hSw
          first | (go_simp; done) | (go_simp; simp [n20, n21, n35]; done) | (go_simp; simpa using n20) | (go_simp; simpa using n35)
        try simp only [Act.put, List.setIfInBounds_toArray, List.set_cons_zero, List.set_cons_succ, List.getElem_toArray, List.getElem_cons_zero, List.getElem_cons_succ]
        refine wpAnyH_done (by kernel_rfl) ?_ _
        go_wp2_with fail
        go_meet
        exact ⟨rfl, Hf6.out⟩
  case rest hcut =>
    obtain ⟨rfl, hcut⟩ := hcut
    have Hc := hide hcut
    clear hcut c0 c1 c2 c3 lb4 Hb4 Hf4 HN HG
    have HF := hide (fun W (h : Fr [] w W) => find_calls (H0.out.tab.fr0 h) ⟨ws.toArray⟩)
    rw [show ((⟨ws.toArray⟩ : ByteArray).data.toList) = ws from rfl] at HF
    have Hwf := hide (want_find ws)
    generalize findP ws = fp at *
    obtain ⟨fp1, fp2⟩ := fp
    simp only at HF
    go_wp2_with fail
    refine (HF.out _ Hc.out).mono ?_
    rintro e w7 ⟨rfl, hf7⟩
    have Hf7 := hide (Hc.out.trans hf7)
    clear hf7 HF Hc
    go_wp2_with fail
    go_loopw [13, 14, 15] (fun s13 s14 s15 wr => ∃ i : Nat, i ≤ 36 ∧ s13 = .int .i64 (wantP ws i).1 ∧ s14 = .bool (wantP ws i).2 ∧ s15 = .int .i64 i ∧ Fr [] w wr) (fun _ _ s15 _ => 36 - (intOf s15).toNat)
    case atStart => exact ⟨0, by omega, rfl, rfl, rfl, Hf7.out⟩
    case round =>
      obtain ⟨i, hi, rfl, rfl, rfl, hf⟩ := hrel
      have Hf := hide hf
      clear hf Hf7
      by_cases hi36 : i < 36
      · have i1 : (i : Int) < 36 := by omega
        have hro := rowOf_nat hi36
        have HR := hide (refOf_calls (w := wr) (i : Int))
        rw [hro] at HR
        have Hwp : Hid (wantP ws (i + 1) = if (rowsL.getD i zR).w = ws then ((i : Int), true) else wantP ws i) := hide rfl
        clear hro
        generalize rowsL.getD i zR = r at *
        obtain ⟨rw_, ra, rt, rl⟩ := r
        simp only [encR] at HR Hwp
        by_cases hw : rw_ = ws
        · have hwb : (rw_ == ws) = true := by simpa using hw
          rw [if_pos hw] at Hwp
          clear hw
          go_wp2_with fail
          refine HR.out.mono ?_
          rintro e w8 ⟨rfl, hf8⟩
          have Hf8 := hide ((Hf.out.trans hf8).alloc (.cells #[.string ⟨rw_.toArray⟩, .int .i64 ra, .int .i64 rt, .int .i64 rl] 24))
          clear hf8
          go_wp2_with fail
          go_roundw
          case rel => exact ⟨i + 1, by omega, by rw [Hwp.out], by rw [Hwp.out], by go_num, Hf8.out⟩
          case measure => simp [intOf]; omega
        · have hwb : (rw_ == ws) = false := by simpa using hw
          rw [if_neg hw] at Hwp
          clear hw
          go_wp2_with fail
          refine HR.out.mono ?_
          rintro e w8 ⟨rfl, hf8⟩
          have Hf8 := hide ((Hf.out.trans hf8).alloc (.cells #[.string ⟨rw_.toArray⟩, .int .i64 ra, .int .i64 rt, .int .i64 rl] 24))
          clear hf8
          go_wp2_with fail
          go_roundw
          case rel => exact ⟨i + 1, by omega, by rw [Hwp.out], by rw [Hwp.out], by go_num, Hf8.out⟩
          case measure => simp [intOf]; omega
      · obtain rfl : i = 36 := by omega
        rw [Hwf.out]
        have i1 : ¬ ((36 : Nat) : Int) < 36 := by omega
        go_wp2_with fail
        go_ret
        exact ⟨by simp, Hf.out.below (by simp) (Nat.le_refl _)⟩
end Go.Proofs.YthjakngpegdhmaaDoor

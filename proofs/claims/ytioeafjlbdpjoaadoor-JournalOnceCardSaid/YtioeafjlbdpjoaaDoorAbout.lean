/- What an entry is about. -/
import Derived.Test.YtioeafjlbdpjoaaDoorSeen
import Derived.Deep.QuietTactic
import Derived.Laws.ResultCell
namespace Go.Proofs.YtioeafjlbdpjoaaDoor
open Go.RowKit
def ownK (u : Un) : Ky :=
  if u.kind = 1 then ⟨1, u.id, u.p.c⟩ else if u.kind = 4 then ⟨4, u.id, u.p.c⟩ else if u.kind = 2 then ⟨2, u.id, 0⟩ else if u.kind = 6 then ⟨6, 0, u.n⟩
  else if u.kind = 7 ∨ u.kind = 8 ∨ u.kind = 9 then ⟨u.kind, 0, 0⟩ else ⟨u.kind, u.id, 0⟩
def othersK (u : Un) : List Ky :=
  if u.kind = 1 then [⟨1, u.id, u.p.c⟩, ⟨4, u.id, u.p.c⟩, ⟨2, u.id, 0⟩] else if u.kind = 6 then [⟨6, 0, u.n⟩]
  else if u.kind = 7 ∨ u.kind = 8 ∨ u.kind = 9 then [⟨u.kind, 0, 0⟩] else []
def AbPost (w w' : World) (k : Ky) (ks : List Ky) (e : Ending) : Prop := ∃ v, e = .returned (.tuple #[encK k, v]) ∧ w'.ownsRow w.heap.size 74 3 v ks.length (ks.flatMap cellsK) ∧ Fr [] w w'
theorem about_end (w W : World) (k : Ky) (v : Value) (tmps : Array Value) (h3 : tmps.getD 2 undef = .pointer (some ⟨w.heap.size + 1, 0, none⟩)) (h4 : tmps.getD 3 undef = v) (hk : Blk W (w.heap.size + 1) 74 #[.int .i64 k.kind, .int .i64 k.id, .int .i64 k.n]) :
    (results Tryd.f30 tmps).run Tryd.prog W = .ok (.tuple #[encK k, v]) W := by
  have j0 := hk.at_ 0 (v := .int .i64 k.kind) rfl
  have j1 := hk.at_ 1 (v := .int .i64 k.id) rfl
  have j2 := hk.at_ 2 (v := .int .i64 k.n) rfl
  rw [results_cell_tmp rfl, h3, h4]
  simp [go_sem, j0, j1, j2]
set_option maxRecDepth 100000 in
set_option maxHeartbeats 2000000 in
theorem about_1 (w : World) (d : Ud) (h : d.u.kind = 1) : Calls Tryd.prog 30 #[d.val] w fun e w' => AbPost w w' (ownK d.u) (othersK d.u) e := by
  have e1 : ownK d.u = ⟨1, d.u.id, d.u.p.c⟩ := by simp [ownK, h]
  have e2 : othersK d.u = [⟨1, d.u.id, d.u.p.c⟩, ⟨4, d.u.id, d.u.p.c⟩, ⟨2, d.u.id, 0⟩] := by simp [othersK, h]
  rw [e1, e2]
  unfold Ud.val
  clear e1 e2
  generalize d.u.ps.length = m
  rw [h]
  generalize d.u.id = id
  generalize d.u.p.c = c
  generalize d.u.n = n
  clear h
  go_enter Tryd.func30, Tryd.ntmps30
  go_wp2_with fail
  go_region
  all_goals
    go_wp2_with fail
    refine bodyPost_ret (v := .tuple #[encK ⟨1, id, c⟩, .slice (some ⟨w.heap.size + 1 + 1, 0, none⟩) 3 3]) ?_ rfl ⟨_, rfl, ?_, by (repeat (first | exact Fr.refl _ _ | apply Fr.drew | apply Fr.drewN | apply Fr.alloc | (refine Fr.setCell ?_ (by first | (left; simp [Value.ownBlock]; done) | (right; simp; omega) | (right; simp; done)) _)))⟩
    · exact about_end w _ ⟨1, id, c⟩ _ _ rfl rfl (((Blk.new_at _ _ _ _ (by simp)).alloc _).drew)
    · exact row_mk ((Blk.new_at _ _ _ _ (by simp)).drew) (by omega) (Nat.le_refl _) (by simp [maxLen]) rfl rfl
set_option maxRecDepth 100000 in
set_option maxHeartbeats 2000000 in
theorem about_4 (w : World) (d : Ud) (h : d.u.kind = 4) : Calls Tryd.prog 30 #[d.val] w fun e w' => AbPost w w' (ownK d.u) (othersK d.u) e := by
  have e1 : ownK d.u = ⟨4, d.u.id, d.u.p.c⟩ := by simp [ownK, h]
  have e2 : othersK d.u = [] := by simp [othersK, h]
  rw [e1, e2]
  unfold Ud.val
  clear e1 e2
  generalize d.u.ps.length = m
  rw [h]
  generalize d.u.id = id
  generalize d.u.p.c = c
  generalize d.u.n = n
  clear h
  go_enter Tryd.func30, Tryd.ntmps30
  go_wp2_with fail
  refine bodyPost_ret (v := .tuple #[encK ⟨4, id, c⟩, .slice none 0 0]) ?_ rfl ⟨_, rfl, ?_, by (repeat (first | exact Fr.refl _ _ | apply Fr.drew | apply Fr.drewN | apply Fr.alloc | (refine Fr.setCell ?_ (by first | (left; simp [Value.ownBlock]; done) | (right; simp; omega) | (right; simp; done)) _)))⟩
  · exact about_end w _ ⟨4, id, c⟩ _ _ rfl rfl (Blk.new_at _ _ _ _ (by simp))
  · exact World.ownsRow_nil _ _ _ _
set_option maxRecDepth 100000 in
set_option maxHeartbeats 2000000 in
theorem about_2 (w : World) (d : Ud) (h : d.u.kind = 2) : Calls Tryd.prog 30 #[d.val] w fun e w' => AbPost w w' (ownK d.u) (othersK d.u) e := by
  have e1 : ownK d.u = ⟨2, d.u.id, 0⟩ := by simp [ownK, h]
  have e2 : othersK d.u = [] := by simp [othersK, h]
  rw [e1, e2]
  unfold Ud.val
  clear e1 e2
  generalize d.u.ps.length = m
  rw [h]
  generalize d.u.id = id
  generalize d.u.p.c = c
  generalize d.u.n = n
  clear h
  go_enter Tryd.func30, Tryd.ntmps30
  go_wp2_with fail
  refine bodyPost_ret (v := .tuple #[encK ⟨2, id, 0⟩, .slice none 0 0]) ?_ rfl ⟨_, rfl, ?_, by (repeat (first | exact Fr.refl _ _ | apply Fr.drew | apply Fr.drewN | apply Fr.alloc | (refine Fr.setCell ?_ (by first | (left; simp [Value.ownBlock]; done) | (right; simp; omega) | (right; simp; done)) _)))⟩
  · exact about_end w _ ⟨2, id, 0⟩ _ _ rfl rfl (Blk.new_at _ _ _ _ (by simp))
  · exact World.ownsRow_nil _ _ _ _
set_option maxRecDepth 100000 in
set_option maxHeartbeats 2000000 in
theorem about_6 (w : World) (d : Ud) (h : d.u.kind = 6) : Calls Tryd.prog 30 #[d.val] w fun e w' => AbPost w w' (ownK d.u) (othersK d.u) e := by
  have e1 : ownK d.u = ⟨6, 0, d.u.n⟩ := by simp [ownK, h]
  have e2 : othersK d.u = [⟨6, 0, d.u.n⟩] := by simp [othersK, h]
  rw [e1, e2]
  unfold Ud.val
  clear e1 e2
  generalize d.u.ps.length = m
  rw [h]
  generalize d.u.id = id
  generalize d.u.p.c = c
  generalize d.u.n = n
  clear h
  go_enter Tryd.func30, Tryd.ntmps30
  go_wp2_with fail
  refine bodyPost_ret (v := .tuple #[encK ⟨6, 0, n⟩, .slice (some ⟨w.heap.size + 1 + 1, 0, none⟩) 1 1]) ?_ rfl ⟨_, rfl, ?_, by (repeat (first | exact Fr.refl _ _ | apply Fr.drew | apply Fr.drewN | apply Fr.alloc | (refine Fr.setCell ?_ (by first | (left; simp [Value.ownBlock]; done) | (right; simp; omega) | (right; simp; done)) _)))⟩
  · exact about_end w _ ⟨6, 0, n⟩ _ _ rfl rfl ((Blk.new_at _ _ _ _ (by simp)).alloc _)
  · exact row_mk ((Blk.new_at _ _ _ _ (by simp))) (by omega) (Nat.le_refl _) (by simp [maxLen]) rfl rfl
set_option maxRecDepth 100000 in
set_option maxHeartbeats 2000000 in
theorem about_7 (w : World) (d : Ud) (h : d.u.kind = 7) : Calls Tryd.prog 30 #[d.val] w fun e w' => AbPost w w' (ownK d.u) (othersK d.u) e := by
  have e1 : ownK d.u = ⟨7, 0, 0⟩ := by simp [ownK, h]
  have e2 : othersK d.u = [⟨7, 0, 0⟩] := by simp [othersK, h]
  rw [e1, e2]
  unfold Ud.val
  clear e1 e2
  generalize d.u.ps.length = m
  rw [h]
  generalize d.u.id = id
  generalize d.u.p.c = c
  generalize d.u.n = n
  clear h
  go_enter Tryd.func30, Tryd.ntmps30
  go_wp2_with fail
  refine bodyPost_ret (v := .tuple #[encK ⟨7, 0, 0⟩, .slice (some ⟨w.heap.size + 1 + 1, 0, none⟩) 1 1]) ?_ rfl ⟨_, rfl, ?_, by (repeat (first | exact Fr.refl _ _ | apply Fr.drew | apply Fr.drewN | apply Fr.alloc | (refine Fr.setCell ?_ (by first | (left; simp [Value.ownBlock]; done) | (right; simp; omega) | (right; simp; done)) _)))⟩
  · exact about_end w _ ⟨7, 0, 0⟩ _ _ rfl rfl ((Blk.new_at _ _ _ _ (by simp)).alloc _)
  · exact row_mk ((Blk.new_at _ _ _ _ (by simp))) (by omega) (Nat.le_refl _) (by simp [maxLen]) rfl rfl
set_option maxRecDepth 100000 in
set_option maxHeartbeats 2000000 in
theorem about_8 (w : World) (d : Ud) (h : d.u.kind = 8) : Calls Tryd.prog 30 #[d.val] w fun e w' => AbPost w w' (ownK d.u) (othersK d.u) e := by
  have e1 : ownK d.u = ⟨8, 0, 0⟩ := by simp [ownK, h]
  have e2 : othersK d.u = [⟨8, 0, 0⟩] := by simp [othersK, h]
  rw [e1, e2]
  unfold Ud.val
  clear e1 e2
  generalize d.u.ps.length = m
  rw [h]
  generalize d.u.id = id
  generalize d.u.p.c = c
  generalize d.u.n = n
  clear h
  go_enter Tryd.func30, Tryd.ntmps30
  go_wp2_with fail
  refine bodyPost_ret (v := .tuple #[encK ⟨8, 0, 0⟩, .slice (some ⟨w.heap.size + 1 + 1, 0, none⟩) 1 1]) ?_ rfl ⟨_, rfl, ?_, by (repeat (first | exact Fr.refl _ _ | apply Fr.drew | apply Fr.drewN | apply Fr.alloc | (refine Fr.setCell ?_ (by first | (left; simp [Value.ownBlock]; done) | (right; simp; omega) | (right; simp; done)) _)))⟩
  · exact about_end w _ ⟨8, 0, 0⟩ _ _ rfl rfl ((Blk.new_at _ _ _ _ (by simp)).alloc _)
  · exact row_mk ((Blk.new_at _ _ _ _ (by simp))) (by omega) (Nat.le_refl _) (by simp [maxLen]) rfl rfl
set_option maxRecDepth 100000 in
set_option maxHeartbeats 2000000 in
theorem about_9 (w : World) (d : Ud) (h : d.u.kind = 9) : Calls Tryd.prog 30 #[d.val] w fun e w' => AbPost w w' (ownK d.u) (othersK d.u) e := by
  have e1 : ownK d.u = ⟨9, 0, 0⟩ := by simp [ownK, h]
  have e2 : othersK d.u = [⟨9, 0, 0⟩] := by simp [othersK, h]
  rw [e1, e2]
  unfold Ud.val
  clear e1 e2
  generalize d.u.ps.length = m
  rw [h]
  generalize d.u.id = id
  generalize d.u.p.c = c
  generalize d.u.n = n
  clear h
  go_enter Tryd.func30, Tryd.ntmps30
  go_wp2_with fail
  refine bodyPost_ret (v := .tuple #[encK ⟨9, 0, 0⟩, .slice (some ⟨w.heap.size + 1 + 1, 0, none⟩) 1 1]) ?_ rfl ⟨_, rfl, ?_, by (repeat (first | exact Fr.refl _ _ | apply Fr.drew | apply Fr.drewN | apply Fr.alloc | (refine Fr.setCell ?_ (by first | (left; simp [Value.ownBlock]; done) | (right; simp; omega) | (right; simp; done)) _)))⟩
  · exact about_end w _ ⟨9, 0, 0⟩ _ _ rfl rfl ((Blk.new_at _ _ _ _ (by simp)).alloc _)
  · exact row_mk ((Blk.new_at _ _ _ _ (by simp))) (by omega) (Nat.le_refl _) (by simp [maxLen]) rfl rfl
set_option maxRecDepth 100000 in
set_option maxHeartbeats 2000000 in
theorem about_o (w : World) (d : Ud) (h1 : d.u.kind ≠ 1) (h4 : d.u.kind ≠ 4) (h2 : d.u.kind ≠ 2) (h6 : d.u.kind ≠ 6) (h7 : d.u.kind ≠ 7) (h8 : d.u.kind ≠ 8) (h9 : d.u.kind ≠ 9) : Calls Tryd.prog 30 #[d.val] w fun e w' => AbPost w w' (ownK d.u) (othersK d.u) e := by
  have e1 : ownK d.u = ⟨d.u.kind, d.u.id, 0⟩ := by simp [ownK, h1, h4, h2, h6, h7, h8, h9]
  have e2 : othersK d.u = [] := by simp [othersK, h1, h6, h7, h8, h9]
  rw [e1, e2]
  unfold Ud.val
  clear e1 e2
  generalize d.u.ps.length = m
  generalize d.u.kind = kd at *
  generalize d.u.id = id
  generalize d.u.p.c = c
  generalize d.u.n = n
  have f1 : (kd == 1) = false := by simp [h1]
  have f4 : (kd == 4) = false := by simp [h4]
  have f2 : (kd == 2) = false := by simp [h2]
  have f6 : (kd == 6) = false := by simp [h6]
  have f7 : (kd == 7) = false := by simp [h7]
  have f8 : (kd == 8) = false := by simp [h8]
  have f9 : (kd == 9) = false := by simp [h9]
  clear h1 h4 h2 h6 h7 h8 h9
  go_enter Tryd.func30, Tryd.ntmps30
  go_wp2_with fail
  refine bodyPost_ret (v := .tuple #[encK ⟨kd, id, 0⟩, .slice none 0 0]) ?_ rfl ⟨_, rfl, ?_, by (repeat (first | exact Fr.refl _ _ | apply Fr.drew | apply Fr.drewN | apply Fr.alloc | (refine Fr.setCell ?_ (by first | (left; simp [Value.ownBlock]; done) | (right; simp; omega) | (right; simp; done)) _)))⟩
  · exact about_end w _ ⟨kd, id, 0⟩ _ _ rfl rfl (Blk.new_at _ _ _ _ (by simp))
  · exact World.ownsRow_nil _ _ _ _
theorem about_calls (w : World) (d : Ud) : Calls Tryd.prog 30 #[d.val] w fun e w' => AbPost w w' (ownK d.u) (othersK d.u) e := by
  by_cases h1 : d.u.kind = 1
  · exact about_1 w d h1
  by_cases h4 : d.u.kind = 4
  · exact about_4 w d h4
  by_cases h2 : d.u.kind = 2
  · exact about_2 w d h2
  by_cases h6 : d.u.kind = 6
  · exact about_6 w d h6
  by_cases h7 : d.u.kind = 7
  · exact about_7 w d h7
  by_cases h8 : d.u.kind = 8
  · exact about_8 w d h8
  by_cases h9 : d.u.kind = 9
  · exact about_9 w d h9
  exact about_o w d h1 h4 h2 h6 h7 h8 h9
end Go.Proofs.YtioeafjlbdpjoaaDoor

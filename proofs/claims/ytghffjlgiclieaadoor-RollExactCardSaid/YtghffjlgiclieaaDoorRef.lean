/- Package pasodobleref06 by contracts: Take, Alive, Free. -/
import Derived.Test.YtghffjlgiclieaaDoorOnce
namespace Go.Proofs.YtghffjlgiclieaaDoor
open Go.RowKit

def gensOf (ps : List (Int × Bool)) : List Value := ps.map fun p => .int .i64 p.1
def isOf (ps : List (Int × Bool)) : List Value := ps.map fun p => .bool p.2
theorem gens_get {ps : List (Int × Bool)} {i : Nat} {g : Int} {b : Bool} (h : ps[i]? = some (g, b)) : (gensOf ps)[i]? = some (.int .i64 g) := by simp [gensOf, h]
theorem is_get {ps : List (Int × Bool)} {i : Nat} {g : Int} {b : Bool} (h : ps[i]? = some (g, b)) : (isOf ps)[i]? = some (.bool b) := by simp [isOf, h]
theorem gens_set {ps : List (Int × Bool)} {i : Nat} (g : Int) (b : Bool) : (gensOf ps).set i (.int .i64 g) = gensOf (ps.set i (g, b)) := by simp [gensOf, List.map_set]
theorem is_set {ps : List (Int × Bool)} {i : Nat} (g : Int) (b : Bool) : (isOf ps).set i (.bool b) = isOf (ps.set i (g, b)) := by simp [isOf, List.map_set]
theorem gens_same {ps : List (Int × Bool)} {i : Nat} {g : Int} {b b' : Bool} (h : ps[i]? = some (g, b)) : gensOf (ps.set i (g, b')) = gensOf ps := by
  rw [← gens_set]; exact set_same (gens_get h)

/-- A Roll of the reference at block g. -/
def RefR (B : Nat) (w : World) (g : Nat) (ps : List (Int × Bool)) (row : List Nat) (S : List Nat) : Prop :=
  ∃ vg vi vf : Value, B ≤ g ∧ Blk w g 62 #[vg, vi, vf] ∧ w.ownsRow B 3 1 vg ps.length (gensOf ps) ∧ w.ownsRow B 4 1 vi ps.length (isOf ps) ∧ w.ownsRow B 3 1 vf row.length (encN row) ∧
    (∀ b, vg.ownBlock = some b → vf.ownBlock ≠ some b) ∧ S = g :: (vg.ownBlock.toList ++ (vi.ownBlock.toList ++ vf.ownBlock.toList))
section
variable {B : Nat} {w w' : World} {g : Nat} {ps : List (Int × Bool)} {row : List Nat} {S T : List Nat}
theorem RefR.lt (h : RefR B w g ps row S) : ∀ b ∈ S, b < w.heap.size ∧ B ≤ b := by
  obtain ⟨vg, vi, vf, hB, hg, h1, h2, h3, _, rfl⟩ := h
  intro b hb
  simp only [List.mem_cons, List.mem_append, Option.mem_toList] at hb
  rcases hb with rfl | hb | hb | hb
  · exact ⟨hg.lt, hB⟩
  · exact row_lt h1 hb
  · exact row_lt h2 hb
  · exact row_lt h3 hb
theorem RefR.fr (h : RefR B w g ps row S) (hf : Fr T w w') (hd : ∀ b ∈ S, b ∉ T) : RefR B w' g ps row S := by
  obtain ⟨vg, vi, vf, hB, hg, h1, h2, h3, h4, rfl⟩ := h
  exact ⟨vg, vi, vf, hB, hg.fr hf (hd _ (by simp)), row_fr h1 hf (fun k hk => hd k (by simp [hk])), row_fr h2 hf (fun k hk => hd k (by simp [hk])), row_fr h3 hf (fun k hk => hd k (by simp [hk])), h4, rfl⟩
theorem RefR.fr0 (h : RefR B w g ps row S) (hf : Fr [] w w') : RefR B w' g ps row S := h.fr hf (by simp)
theorem RefR.alloc (h : RefR B w g ps row S) (o : Obj) : RefR B (w.alloc o) g ps row S := h.fr0 ((Fr.refl [] w).alloc o)
end

set_option maxRecDepth 100000 in
set_option maxHeartbeats 1000000 in
theorem rtake_full {B : Nat} {w : World} {g : Nat} {ps : List (Int × Bool)} {S : List Nat} (h : RefR B w g ps [] S) :
    Calls Tryd.prog 16 #[.pointer (some ⟨g, 0, none⟩)] w fun e w' => e = .returned (.tuple #[.agg #[.int .i64 0, .int .i64 0], .int .i64 6]) ∧ Fr [] w w' := by
  obtain ⟨vg, vi, vf, hB, hg, h1, h2, h3, h4, rfl⟩ := h
  have lg := hg.lt
  have hv : ∃ A c, vf = .slice A 0 c := by
    rcases row_form h3 with ⟨rfl, _⟩ | ⟨gt, ct, rfl, _⟩
    · exact ⟨_, _, rfl⟩
    · exact ⟨_, _, rfl⟩
  obtain ⟨A, c, rfl⟩ := hv
  have c2 := hg.at_ 2 (v := .slice A 0 c) (by rfl)
  clear hg h1 h2 h3 h4
  go_enter Tryd.func16, Tryd.ntmps16
  go_wp2
  refine bodyPost_ret (v := .tuple #[.agg #[.int .i64 0, .int .i64 0], .int .i64 6]) (by simp [results, Tryd.results16, go_sem]) rfl ⟨rfl, ?_⟩
  (repeat (first | exact Fr.refl _ _ | apply Fr.drew | apply Fr.drewN | apply Fr.alloc | (refine Fr.setCell ?_ (by first | (left; simp [Value.ownBlock]; done) | (right; simp; omega) | (right; simp; done)) _)))

set_option maxRecDepth 100000 in
set_option maxHeartbeats 1000000 in
theorem rtake_ok {B : Nat} {w : World} {g : Nat} {ps : List (Int × Bool)} {row : List Nat} {i : Nat} {S : List Nat} (h : RefR B w g ps (row ++ [i]) S) {gen : Int} {b : Bool} (hi : ps[i]? = some (gen, b)) (h0 : 0 ≤ gen) (h1 : gen < 1000000) (hrl : row.length ≤ 1000000) :
    Calls Tryd.prog 16 #[.pointer (some ⟨g, 0, none⟩)] w fun e w' => e = .returned (.tuple #[.agg #[.int .i64 i, .int .i64 (gen + 1)], .int .i64 0]) ∧ RefR B w' g (ps.set i (gen + 1, true)) row S ∧ Fr S w w' := by
  obtain ⟨vg, vi, vf, hB, hg, hr1, hr2, hr3, h4, rfl⟩ := h
  have hil : i < ps.length := (List.getElem?_eq_some_iff.1 hi).1
  rcases row_form hr1 with ⟨_, h2, _⟩ | ⟨gg, cg, rfl, _, lgg, hcg, hmg⟩
  · omega
  rcases row_form hr2 with ⟨_, h2, _⟩ | ⟨gi, ci, rfl, _, lgi, hci, hmi⟩
  · omega
  rcases row_form hr3 with ⟨_, h2, _⟩ | ⟨gf, cf, rfl, _, lgf, hcf, hmf⟩
  · simp at h2
  have hlen : (row ++ [i]).length = row.length + 1 := by simp
  rw [hlen] at hr3 hcf
  have lg := hg.lt
  have c0 := hg.at_ 0 (v := .slice (some ⟨gg, 0, none⟩) ps.length cg) (by rfl)
  have c1 := hg.at_ 1 (v := .slice (some ⟨gi, 0, none⟩) ps.length ci) (by rfl)
  have c2 := hg.at_ 2 (v := .slice (some ⟨gf, 0, none⟩) (row ++ [i]).length cf) (by rfl)
  rw [hlen] at c2
  have fg := hg.frozen
  have cg0 := row_cell hr1 (gens_get hi)
  have ci0 := row_cell hr2 (is_get hi)
  have cf0 := row_cell hr3 (i := row.length) (u := .int .i64 i) (encN_get (by simp))
  have fgg := row_frozen hr1
  have fgi := row_frozen hr2
  obtain ⟨curg, bg, _⟩ := row_blk hr1
  obtain ⟨curi, bi, _⟩ := row_blk hr2
  obtain ⟨curf, bf, _⟩ := row_blk hr3
  have n1 : g ≠ gg := hg.ne_ bg (by decide)
  have n2 : g ≠ gi := hg.ne_ bi (by decide)
  have n3 : g ≠ gf := hg.ne_ bf (by decide)
  have n4 : gg ≠ gi := bg.ne_ bi (by decide)
  have n5 : gf ≠ gi := bf.ne_ bi (by decide)
  have n6 : gg ≠ gf := fun e => h4 gg rfl (by rw [e]; rfl)
  have n1' := n1.symm
  have n2' := n2.symm
  have n3' := n3.symm
  have n4' := n4.symm
  have n5' := n5.symm
  have n6' := n6.symm
  have i0 : (0 : Int) ≤ (i : Int) := by omega
  have i1 : (i : Int) < (ps.length : Int) := by omega
  have j0 : (0 : Int) ≤ (row.length : Int) := by omega
  have j2 : (row.length : Int) ≤ (cf : Int) := by omega
  have Hall := hide (And.intro hg (And.intro hr1 (And.intro hr2 (And.intro hr3 (And.intro h4 (And.intro hlen hi))))))
  clear hg hr1 hr2 hr3 h4 bg bi bf hlen hi hcg hci hmg hmi hmf
  go_enter Tryd.func16, Tryd.ntmps16
  go_wp2_with fail
  obtain ⟨hg, hr1, hr2, hr3, h4, hlen, hi⟩ := Hall.out
  rw [hlen] at hg
  refine bodyPost_ret (v := .tuple #[.agg #[.int .i64 i, .int .i64 (gen + 1)], .int .i64 0]) (by simp [results, Tryd.results16, go_sem]) rfl ⟨rfl, ⟨.slice (some ⟨gg, 0, none⟩) ps.length cg, .slice (some ⟨gi, 0, none⟩) ps.length ci, .slice (some ⟨gf, 0, none⟩) row.length cf, hB, ?_, ?_, ?_, ?_, ?_, ?_⟩, ?_⟩
  · have := (((hg.set_ 2 (.slice (some ⟨gf, 0, none⟩) row.length cf)).far (p := ⟨gg, i, none⟩) n1 (.int .i64 (gen + 1))).far (p := ⟨gi, i, none⟩) n2 (.bool true)).alloc (.cells #[.int .i64 i, .int .i64 (gen + 1)] 31)
    simpa using this
  · have := row_far (row_store (row_far hr1 (p := ⟨g, 2, none⟩) (by simp [Value.ownBlock, n1']) (.slice (some ⟨gf, 0, none⟩) row.length cf)) i (by omega) (.int .i64 (gen + 1))) (p := ⟨gi, i, none⟩) (by simp [Value.ownBlock, n4]) (.bool true)
    rw [gens_set (gen + 1) true] at this
    rw [List.length_set]
    exact this.alloc _
  · have := row_store (row_far (row_far hr2 (p := ⟨g, 2, none⟩) (by simp [Value.ownBlock, n2']) (.slice (some ⟨gf, 0, none⟩) row.length cf)) (p := ⟨gg, i, none⟩) (by simp [Value.ownBlock, n4']) (.int .i64 (gen + 1))) i (by omega) (.bool true)
    rw [is_set (gen + 1) true] at this
    rw [List.length_set]
    exact this.alloc _
  · have := row_cut (row_far (row_far (row_far hr3 (p := ⟨g, 2, none⟩) (by simp [Value.ownBlock, n3']) (.slice (some ⟨gf, 0, none⟩) row.length cf)) (p := ⟨gg, i, none⟩) (by simp [Value.ownBlock, n6']) (.int .i64 (gen + 1))) (p := ⟨gi, i, none⟩) (by simp [Value.ownBlock, n5]) (.bool true)) (k := row.length) (by omega)
    rw [Nat.mul_one, encN_take, List.take_left' rfl] at this
    exact this.alloc _
  · intro b hb
    have hb' : gg = b := by simpa [Value.ownBlock] using hb
    subst hb'
    simp [Value.ownBlock, n6']
  · simp [Value.ownBlock]
  · exact ((((Fr.refl _ w).setCell (by simp) _).setCell (by simp [Value.ownBlock]) _).setCell (by simp [Value.ownBlock]) _).alloc _

/-! ### Alive -/
set_option maxRecDepth 100000 in
set_option maxHeartbeats 2000000 in
theorem ralive_calls {B : Nat} {w : World} {g : Nat} {ps : List (Int × Bool)} {row : List Nat} {S : List Nat} (h : RefR B w g ps row S) (hn : ps.length ≤ 1000000) (i gen : Int) :
    Calls Tryd.prog 19 #[.pointer (some ⟨g, 0, none⟩), .agg #[.int .i64 i, .int .i64 gen]] w fun e w' => e = .returned (.bool (aliveB ps i gen)) ∧ Fr [] w w' := by
  obtain ⟨vg, vi, vf, hB, hg, hr1, hr2, hr3, h4, rfl⟩ := h
  have lg := hg.lt
  by_cases h0 : i < 0
  · rw [show aliveB ps i gen = false from by simp [aliveB]; omega]
    have hd : decide (0 ≤ i) = false := by simpa using h0
    have hd' : decide (i ≥ 0) = false := by simpa using h0
    clear hg hr1 hr2 hr3 h4
    go_enter Tryd.func19, Tryd.ntmps19
    go_wp2_with fail
    go_quiet (fail)
    go_wp2
    go_ret
    exact ⟨rfl, ((Fr.refl _ w).alloc _).drewN _⟩
  have h0' : 0 ≤ i := by omega
  have hd : decide (0 ≤ i) = true := by simpa using h0'
  by_cases h1 : (ps.length : Int) ≤ i
  · rw [show aliveB ps i gen = false from by
      unfold aliveB
      rw [List.getElem?_eq_none (by omega)]
      simp]
    have hv : ∃ A c, vg = .slice A ps.length c := by
      rcases row_form hr1 with ⟨rfl, h2, _⟩ | ⟨gp, cp, rfl, _⟩
      · exact ⟨_, _, by rw [h2]⟩
      · exact ⟨_, _, rfl⟩
    obtain ⟨A, c, rfl⟩ := hv
    have c0 := hg.at_ 0 (v := .slice A ps.length c) (by rfl)
    have hd2 : decide (i < (ps.length : Int)) = false := by simpa using h1
    clear hg hr1 hr2 hr3 h4
    go_enter Tryd.func19, Tryd.ntmps19
    go_wp2_with fail
    go_quiet (fail)
    go_wp2
    go_ret
    exact ⟨rfl, ((Fr.refl _ w).alloc _).drewN _⟩
  · rcases row_form hr1 with ⟨_, h2, _⟩ | ⟨gg, cg, rfl, _, lgg, hcg, hmg⟩
    · omega
    rcases row_form hr2 with ⟨_, h2, _⟩ | ⟨gi, ci, rfl, _, lgi, hci, hmi⟩
    · omega
    obtain ⟨k, rfl⟩ := Int.eq_ofNat_of_zero_le (a := i) h0'
    have hk : k < ps.length := by omega
    obtain ⟨⟨pg, pb⟩, hx⟩ : ∃ x, ps[k]? = some x := ⟨ps[k], by simp [hk]⟩
    have c0 := hg.at_ 0 (v := .slice (some ⟨gg, 0, none⟩) ps.length cg) (by rfl)
    have c1 := hg.at_ 1 (v := .slice (some ⟨gi, 0, none⟩) ps.length ci) (by rfl)
    have cg0 := row_cell hr1 (gens_get hx)
    have ci0 := row_cell hr2 (is_get hx)
    have ha : aliveB ps (k : Int) gen = (pb && decide (pg = gen)) := by
      unfold aliveB
      simp only [Int.toNat_natCast, hx]
      rw [Bool.eq_iff_iff]
      simp [and_comm]
    rw [ha]
    have hd2 : decide ((k : Int) < (ps.length : Int)) = true := by simpa using hk
    have k1 : (k : Int) < (ps.length : Int) := by omega
    clear hg hr1 hr2 hr3 h4 hx ha hcg hci hmg hmi h1 h0
    cases pb with
    | false =>
      go_enter Tryd.func19, Tryd.ntmps19
      go_wp2_with fail
      go_quiet (fail)
      go_wp2
      go_ret
      exact ⟨by simp, ((Fr.refl _ w).alloc _).drewN _⟩
    | true =>
      by_cases he : pg = gen
      · have q1 : (pg == gen) = true := by simp [he]
        have He := hide he
        clear he
        go_enter Tryd.func19, Tryd.ntmps19
        go_wp2_with fail
        go_quiet (fail)
        go_wp2
        go_ret
        exact ⟨by simp [He.out], ((Fr.refl _ w).alloc _).drewN _⟩
      · have q1 : (pg == gen) = false := by simp [he]
        have He := hide he
        clear he
        go_enter Tryd.func19, Tryd.ntmps19
        go_wp2_with fail
        go_quiet (fail)
        go_wp2
        go_ret
        exact ⟨by simp [He.out], ((Fr.refl _ w).alloc _).drewN _⟩
end Go.Proofs.YtghffjlgiclieaaDoor

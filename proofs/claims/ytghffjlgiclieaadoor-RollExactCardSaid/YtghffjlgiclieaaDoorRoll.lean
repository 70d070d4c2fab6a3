/- Package roll by contracts: what New, Take, Alive, Free, Count, Most, List answer and what becomes of the list of places. -/
import Derived.Test.YtghffjlgiclieaaDoorErr
import Derived.Deep.RegionLaw
namespace Go.Proofs.YtghffjlgiclieaaDoor
open Go.RowKit

/-- the cells of a place -/
def encPl (p : Int × Bool) : List Value := [.int .i64 p.1, .bool p.2]
theorem encPl_len : ∀ p, (encPl p).length = 2 := fun _ => rfl
/-- the cells of a list of indices -/
def encN (l : List Nat) : List Value := l.map fun (i : Nat) => Value.int .i64 i

/-- A Roll at block g: its places, its free row; S: its blocks. -/
def RollR (B : Nat) (w : World) (g : Nat) (ps : List (Int × Bool)) (row : List Nat) (S : List Nat) : Prop :=
  ∃ vp vr : Value, B ≤ g ∧ Blk w g 56 #[vp, vr] ∧ w.ownsRow B 60 2 vp ps.length (ps.flatMap encPl) ∧ w.ownsRow B 3 1 vr row.length (encN row) ∧ S = g :: (vp.ownBlock.toList ++ vr.ownBlock.toList)

theorem RollR.lt {B : Nat} {w : World} {g : Nat} {ps : List (Int × Bool)} {row : List Nat} {S : List Nat} (h : RollR B w g ps row S) : ∀ b ∈ S, b < w.heap.size ∧ B ≤ b := by
  obtain ⟨vp, vr, hB, hg, hp, hr, rfl⟩ := h
  intro b hb
  simp only [List.mem_cons, List.mem_append, Option.mem_toList] at hb
  rcases hb with rfl | hb | hb
  · exact ⟨hg.lt, hB⟩
  · exact row_lt hp hb
  · exact row_lt hr hb
theorem RollR.fr {B : Nat} {w w' : World} {g : Nat} {ps : List (Int × Bool)} {row : List Nat} {S T : List Nat} (h : RollR B w g ps row S) (hf : Fr T w w') (hd : ∀ b ∈ S, b ∉ T) : RollR B w' g ps row S := by
  obtain ⟨vp, vr, hB, hg, hp, hr, rfl⟩ := h
  exact ⟨vp, vr, hB, hg.fr hf (hd _ (by simp)), row_fr hp hf (fun k hk => hd k (by simp [hk])), row_fr hr hf (fun k hk => hd k (by simp [hk])), rfl⟩

theorem encN_get {l : List Nat} {k i : Nat} (h : l[k]? = some i) : (encN l)[k]? = some (.int .i64 i) := by simp [encN, h]
theorem encN_take (l : List Nat) (k : Nat) : (encN l).take k = encN (l.take k) := by simp [encN]

set_option maxHeartbeats 1000000 in
theorem take_ok {B : Nat} {w : World} {g : Nat} {ps : List (Int × Bool)} {row : List Nat} {i : Nat} {S : List Nat} (h : RollR B w g ps (row ++ [i]) S) {gen : Int} {b : Bool} (hi : ps[i]? = some (gen, b)) (h0 : 0 ≤ gen) (h1 : gen < 1000000) :
    Calls Tryd.prog 8 #[.pointer (some ⟨g, 0, none⟩)] w fun e w' => e = .returned (.tuple #[.agg #[.int .i64 i, .int .i64 (gen + 1)], .nilIface]) ∧ RollR B w' g (ps.set i (gen + 1, true)) row S ∧ Fr S w w' := by
  obtain ⟨vp, vr, hB, hg, hp, hr, rfl⟩ := h
  rcases row_form hp with ⟨_, h2, _⟩ | ⟨gp, cp, rfl, hBp, lp, hcp, hmp⟩
  · have := (List.getElem?_eq_some_iff.1 hi).1
    omega
  rcases row_form hr with ⟨_, h2, _⟩ | ⟨gr, cr, rfl, hBr, lr, hcr, hmr⟩
  · simp at h2
  have hlen : (row ++ [i]).length = row.length + 1 := by simp
  rw [hlen] at hr hcr
  have hil : i < ps.length := (List.getElem?_eq_some_iff.1 hi).1
  have lg := hg.lt
  have c0 := hg.at_ 0 (v := .slice (some ⟨gp, 0, none⟩) ps.length cp) (by simp)
  have c1 := hg.at_ 1 (v := .slice (some ⟨gr, 0, none⟩) (row ++ [i]).length cr) (by simp)
  rw [hlen] at c1
  have fg := hg.frozen
  have ck := row_cell hr (i := row.length) (u := .int .i64 i) (encN_get (by simp))
  have cp0 := row_cell hp (i := i * 2 + 0) (u := .int .i64 gen) (by rw [flat_get encPl_len hi 0 (by omega)]; rfl)
  have cp1 := row_cell hp (i := i * 2 + 1) (u := .bool b) (by rw [flat_get encPl_len hi 1 (by omega)]; rfl)
  rw [Nat.add_zero] at cp0
  obtain ⟨curp, bp, _, _, _, hsp, htp⟩ := row_blk hp
  obtain ⟨curr, br, _, _, _, hsr, htr⟩ := row_blk hr
  have fp := bp.frozen
  have n1 : g ≠ gp := hg.ne_ bp (by decide)
  have n2 : g ≠ gr := hg.ne_ br (by decide)
  have n3 : gp ≠ gr := bp.ne_ br (by decide)
  have n1' := n1.symm
  have n2' := n2.symm
  have n3' := n3.symm
  unfold maxLen at hmp hmr
  have Hall := hide (And.intro hg (And.intro hp hr))
  have Hlen := hide hlen
  clear hg hp hr bp br hsp htp hsr htr hlen
  have Hi := hide hi
  clear hi
  go_enter Tryd.func8, Tryd.ntmps8
  go_wp2
  refine bodyPost_ret (v := .tuple #[.agg #[.int .i64 i, .int .i64 (gen + 1)], .nilIface]) (by simp [results, Tryd.results8, go_sem]) rfl ⟨rfl, ?_, ?_⟩
  · obtain ⟨hg, hp, hr⟩ := Hall.out
    rw [Hlen.out] at hg
    refine ⟨.slice (some ⟨gp, 0, none⟩) ps.length cp, .slice (some ⟨gr, 0, none⟩) row.length cr, hB, ?_, ?_, ?_, rfl⟩
    · have := (((hg.set_ 1 (.slice (some ⟨gr, 0, none⟩) row.length cr)).far (p := ⟨gp, i * 2, none⟩) n1 (.int .i64 (gen + 1))).far (p := ⟨gp, i * 2 + 1, none⟩) n1 (.bool true)).alloc (.cells #[.int .i64 i, .int .i64 (gen + 1)] 31)
      simpa using this
    · have := row_store (row_store (row_far hp (p := ⟨g, 1, none⟩) (by simp [Value.ownBlock, n1']) (.slice (some ⟨gr, 0, none⟩) row.length cr)) (i * 2 + 0) (by omega) (.int .i64 (gen + 1))) (i * 2 + 1) (by omega) (.bool true)
      rw [flat_set encPl_len Hi.out 0 (by omega) (.int .i64 (gen + 1)) (x' := (gen + 1, b)) rfl, flat_set encPl_len (x := (gen + 1, b)) (by simp [hil]) 1 (by omega) (.bool true) (x' := (gen + 1, true)) rfl, List.set_set] at this
      rw [List.length_set]
      exact this.alloc _
    · have := row_cut (row_far (row_far (row_far hr (p := ⟨g, 1, none⟩) (by simp [Value.ownBlock, n2']) (.slice (some ⟨gr, 0, none⟩) row.length cr)) (p := ⟨gp, i * 2, none⟩) (by simp [Value.ownBlock, n3']) (.int .i64 (gen + 1))) (p := ⟨gp, i * 2 + 1, none⟩) (by simp [Value.ownBlock, n3']) (.bool true)) (k := row.length) (by omega)
      rw [Nat.mul_one, encN_take, List.take_left'] at this
      · exact this.alloc _
      · rfl
  · exact ((((Fr.refl _ w).setCell (by simp) _).setCell (by simp [Value.ownBlock]) _).setCell (by simp [Value.ownBlock]) _).alloc _

/-- is the entity there? -/
def aliveB (ps : List (Int × Bool)) (i gen : Int) : Bool := decide (0 ≤ i) && decide (ps[i.toNat]? = some (gen, true))

set_option maxHeartbeats 1000000 in
theorem alive_below {w : World} {g : Nat} (i gen : Int) (hi : i < 0) :
    Calls Tryd.prog 12 #[.pointer (some ⟨g, 0, none⟩), .agg #[.int .i64 i, .int .i64 gen]] w fun e w' => e = .returned (.bool false) ∧ Fr [] w w' := by
  have hd : decide (i < 0) = true := by simpa using hi
  go_enter Tryd.func12, Tryd.ntmps12
  go_wp2_with fail
  go_quiet (fail)
  go_wp2
  go_ret
  exact ⟨rfl, ((Fr.refl _ w).alloc _).drewN _⟩
set_option maxHeartbeats 1000000 in
theorem alive_above {w : World} {g n cp : Nat} {A : Option Addr} (hg : w.cell? ⟨g, 0, none⟩ = some (.slice A n cp)) (i gen : Int) (hi0 : 0 ≤ i) (hi : n ≤ i) (hn : n ≤ 1000000) :
    Calls Tryd.prog 12 #[.pointer (some ⟨g, 0, none⟩), .agg #[.int .i64 i, .int .i64 gen]] w fun e w' => e = .returned (.bool false) ∧ Fr [] w w' := by
  have lg := World.block_lt_of_cell? w _ hg
  have hd : decide (i < 0) = false := by simpa using hi0
  have hd2 : decide ((n : Int) ≤ i) = true := by simpa using hi
  go_enter Tryd.func12, Tryd.ntmps12
  go_wp2_with fail
  go_quiet (fail)
  go_wp2
  go_ret
  exact ⟨rfl, ((Fr.refl _ w).alloc _).drewN _⟩
set_option maxHeartbeats 2000000 in
theorem alive_in {w : World} {g n cp gp : Nat} (hg : w.cell? ⟨g, 0, none⟩ = some (.slice (some ⟨gp, 0, none⟩) n cp)) (i : Nat) (gen pg : Int) (pb : Bool) (hi : i < n) (hn : n ≤ 1000000)
    (h0 : w.cell? ⟨gp, i * 2, none⟩ = some (.int .i64 pg)) (h1 : w.cell? ⟨gp, i * 2 + 1, none⟩ = some (.bool pb)) :
    Calls Tryd.prog 12 #[.pointer (some ⟨g, 0, none⟩), .agg #[.int .i64 i, .int .i64 gen]] w fun e w' => e = .returned (.bool (pb && decide (pg = gen))) ∧ Fr [] w w' := by
  have lg := World.block_lt_of_cell? w _ hg
  have lp := World.block_lt_of_cell? w _ h0
  have hi0 : (0 : Int) ≤ (i : Int) := by omega
  have hd : decide ((i : Int) < 0) = false := by simp
  have hd2 : decide ((n : Int) ≤ i) = false := by simp; omega
  have hi1 : (i : Int) < (n : Int) := by omega
  have n1 := World.new_ne w _ hg
  have n2 := World.new_ne w _ h0
  have n3 := World.new_ne w _ h1
  go_enter Tryd.func12, Tryd.ntmps12
  go_wp2_with fail
  go_quiet (fail)
  go_wp2
  go_region_held3 (fun w' => w'.cell? ⟨g, 0, none⟩ = some (.slice (some ⟨gp, 0, none⟩) n cp) ∧ w'.cell? ⟨gp, i * 2, none⟩ = some (.int .i64 pg) ∧ w'.cell? ⟨gp, i * 2 + 1, none⟩ = some (.bool pb) ∧ w'.cell? ⟨w.heap.size, 0, none⟩ = some (.int .i64 i)) (go_keep) (fail)
  all_goals go_wp2
  all_goals
    go_ret
    refine ⟨ret_eq ?_, ?_⟩
    · first | (simp_all; done) | (simp_all; rw [Bool.eq_iff_iff]; simp)
    · (repeat (first | exact Fr.refl _ _ | apply Fr.drew | apply Fr.drewN | apply Fr.alloc | (refine Fr.setCell ?_ (by first | (left; simp [Value.ownBlock]; done) | (right; simp; omega) | (right; simp; done)) _)))

theorem alive_calls {B : Nat} {w : World} {g : Nat} {ps : List (Int × Bool)} {row : List Nat} {S : List Nat} (h : RollR B w g ps row S) (hn : ps.length ≤ 1000000) (i gen : Int) :
    Calls Tryd.prog 12 #[.pointer (some ⟨g, 0, none⟩), .agg #[.int .i64 i, .int .i64 gen]] w fun e w' => e = .returned (.bool (aliveB ps i gen)) ∧ Fr [] w w' := by
  obtain ⟨vp, vr, hB, hg, hp, hr, rfl⟩ := h
  by_cases h0 : i < 0
  · rw [show aliveB ps i gen = false from by simp [aliveB]; omega]
    exact alive_below i gen h0
  by_cases h1 : (ps.length : Int) ≤ i
  · rw [show aliveB ps i gen = false from by
      unfold aliveB
      rw [List.getElem?_eq_none (by omega)]
      simp]
    rcases row_form hp with ⟨rfl, h2, _⟩ | ⟨gp, cp, rfl, _⟩
    · rw [h2] at h1
      exact alive_above (hg.at_ 0 (by rfl)) i gen (by omega) h1 (by omega)
    · exact alive_above (hg.at_ 0 (by rfl)) i gen (by omega) h1 hn
  · rcases row_form hp with ⟨_, h2, _⟩ | ⟨gp, cp, rfl, _⟩
    · omega
    · obtain ⟨k, rfl⟩ := Int.eq_ofNat_of_zero_le (a := i) (by omega)
      have hk : k < ps.length := by omega
      have hx : ps[k]? = some (ps[k].1, ps[k].2) := by simp [hk]
      have c0 := row_cell hp (i := k * 2 + 0) (u := .int .i64 ps[k].1) (by rw [flat_get encPl_len hx 0 (by omega)]; rfl)
      have c1 := row_cell hp (i := k * 2 + 1) (u := .bool ps[k].2) (by rw [flat_get encPl_len hx 1 (by omega)]; rfl)
      rw [show aliveB ps (k : Int) gen = (ps[k].2 && decide (ps[k].1 = gen)) from by
        unfold aliveB
        simp only [Int.toNat_natCast, hx]
        rw [Bool.eq_iff_iff]
        simp [and_comm]]
      exact alive_in (hg.at_ 0 (by rfl)) k gen _ _ hk hn c0 c1

/-! ### Count, Most -/
theorem count_calls {B : Nat} {w : World} {g : Nat} {ps : List (Int × Bool)} {row : List Nat} {S : List Nat} (h : RollR B w g ps row S) (hn : ps.length ≤ 1000000) (hr : row.length ≤ ps.length) :
    Calls Tryd.prog 11 #[.pointer (some ⟨g, 0, none⟩)] w fun e w' => e = .returned (.int .i64 ((ps.length : Int) - row.length)) ∧ Fr [] w w' := by
  obtain ⟨vp, vr, hB, hg, hp, hr', rfl⟩ := h
  have lg := hg.lt
  rcases row_form hp with ⟨rfl, h2, _⟩ | ⟨gp, cp, rfl, _⟩ <;> rcases row_form hr' with ⟨rfl, h3, _⟩ | ⟨gr, cr, rfl, _⟩
  all_goals
    have c0 := hg.at_ 0 (by rfl)
    have c1 := hg.at_ 1 (by rfl)
    clear hg hp hr'
    go_enter Tryd.func11, Tryd.ntmps11
    go_wp2
    go_quiet (fail)
    go_wp2
    go_ret
    refine ⟨ret_eq (int_eq (by omega)), ?_⟩
    (repeat (first | exact Fr.refl _ _ | apply Fr.drew | apply Fr.drewN | apply Fr.alloc | (refine Fr.setCell ?_ (by first | (left; simp [Value.ownBlock]; done) | (right; simp; omega) | (right; simp; done)) _)))
theorem most_calls {B : Nat} {w : World} {g : Nat} {ps : List (Int × Bool)} {row : List Nat} {S : List Nat} (h : RollR B w g ps row S) :
    Calls Tryd.prog 13 #[.pointer (some ⟨g, 0, none⟩)] w fun e w' => e = .returned (.int .i64 ps.length) ∧ Fr [] w w' := by
  obtain ⟨vp, vr, hB, hg, hp, hr', rfl⟩ := h
  have lg := hg.lt
  rcases row_form hp with ⟨rfl, h2, _⟩ | ⟨gp, cp, rfl, _⟩
  all_goals
    have c0 := hg.at_ 0 (by rfl)
    clear hg hp hr'
    go_enter Tryd.func13, Tryd.ntmps13
    go_wp2
    go_ret
    refine ⟨ret_eq (int_eq (by omega)), ?_⟩
    (repeat (first | exact Fr.refl _ _ | apply Fr.drew | apply Fr.drewN | apply Fr.alloc | (refine Fr.setCell ?_ (by first | (left; simp [Value.ownBlock]; done) | (right; simp; omega) | (right; simp; done)) _)))

theorem infoInt : (Tryd.prog.info? 3).map (fun i => (i.zero, i.size, i.bytes)) = some (some (.int .i64 0), 1, 8) := by kernel_rfl
theorem RollR.alloc {B : Nat} {w : World} {g : Nat} {ps : List (Int × Bool)} {row : List Nat} {S : List Nat} (h : RollR B w g ps row S) (o : Obj) : RollR B (w.alloc o) g ps row S := h.fr ((Fr.refl [] w).alloc o) (by simp)

set_option maxRecDepth 100000 in
set_option maxHeartbeats 4000000 in
theorem free_ok {B : Nat} {w : World} {g : Nat} {ps : List (Int × Bool)} {row : List Nat} {S : List Nat} (h : RollR B w g ps row S) (hB : B ≤ w.heap.size) {k : Nat} {gen : Int} (hk : ps[k]? = some (gen, true)) (hn : ps.length ≤ 1000000) (hrow : row.length ≤ 1000000) :
    Calls Tryd.prog 10 #[.pointer (some ⟨g, 0, none⟩), .agg #[.int .i64 k, .int .i64 gen]] w fun e w' => e = .returned .nilIface ∧ ∃ S', RollR B w' g (ps.set k (gen, false)) (row ++ [k]) S' ∧ Stp S S' w w' := by
  have Ha := alive_calls (h.alloc (.cells #[.int .i64 k, .int .i64 gen] 31)) hn k gen
  have hb : aliveB ps k gen = true := by simp [aliveB, hk]
  rw [hb] at Ha
  have HA := hide Ha
  clear Ha hb
  obtain ⟨vp, vr, hBg, hg, hp, hr, rfl⟩ := h
  rcases row_form hp with ⟨_, h2, _⟩ | ⟨gp, cp, rfl, hBp, lp, hcp, hmp⟩
  · have := (List.getElem?_eq_some_iff.1 hk).1
    omega
  have hkl : k < ps.length := (List.getElem?_eq_some_iff.1 hk).1
  have lg := hg.lt
  obtain ⟨i0, hi0, hz0, hz1, hz2⟩ := info_parts infoInt
  have Hall := hide (And.intro hg (And.intro hp (And.intro hr hk)))
  clear hg hp hr hk
  go_enter Tryd.func10, Tryd.ntmps10
  go_wp2_with fail
  refine HA.out.mono ?_
  rintro e w1 ⟨rfl, hf⟩
  obtain ⟨hg, hp, hr, hk⟩ := Hall.out
  have hbox := (Blk.new w 31 #[.int .i64 k, .int .i64 gen]).fr0 hf
  have hf0 : Fr [] w w1 := ((Fr.refl [] w).alloc _).trans hf
  have hg1 := hg.fr0 hf0
  have hp1 := row_fr hp hf0 (by simp)
  have hr1 := row_fr hr hf0 (by simp)
  have c0 := hg1.at_ 0 (v := .slice (some ⟨gp, 0, none⟩) ps.length cp) (by rfl)
  have c1 := hg1.at_ 1 (v := vr) (by rfl)
  have fg := hg1.frozen
  have cb := hbox.at_ 0 (v := .int .i64 k) (by rfl)
  have cq := row_cell hp1 (i := k * 2 + 1) (u := .bool true) (by rw [flat_get encPl_len hk 1 (by omega)]; rfl)
  obtain ⟨curp, bp, _, _, _, hsp, htp⟩ := row_blk hp1
  have fp := bp.frozen
  have n1 : g ≠ gp := hg1.ne_ bp (by decide)
  have n1' := n1.symm
  have n2 : w.heap.size ≠ g := by omega
  have n3 : w.heap.size ≠ gp := by omega
  have n2' := n2.symm
  have n3' := n3.symm
  have l1 := hg1.lt
  have l2 := bp.lt
  have l3 := hbox.lt
  have k0 : (0 : Int) ≤ (k : Int) := by omega
  have k1 : (k : Int) < (ps.length : Int) := by omega
  have H1 := hide (And.intro hg1 (And.intro hp1 (And.intro hr1 (And.intro hk (And.intro hbox hf0)))))
  clear hg1 hp1 hr1 hk hbox hf0 hf hg hp hr bp hsp htp
  go_wp2_with fail
  go_region_held3 (fun w' => w'.cell? ⟨g, 0, none⟩ = some (.slice (some ⟨gp, 0, none⟩) ps.length cp) ∧ w'.cell? ⟨w.heap.size, 0, none⟩ = some (.int .i64 k)) (go_keep) (fail)
  go_wp2_with fail
  generalize hW : World.drew (World.setCell w1 _ _) = w2
  obtain ⟨hg1, hp1, hr1, hk, hbox, hf0⟩ := H1.out
  have hst := row_store hp1 (k * 2 + 1) (by omega) (.bool false)
  rw [flat_set encPl_len hk 1 (by omega) (.bool false) (x' := (gen, false)) rfl] at hst
  have m1 : vr.ownBlock ≠ some gp := fun e => row_row_ne hr1 hp1 (by decide) _ e rfl
  have m2 : vr.ownBlock ≠ some g := row_blk_ne hr1 hg1 (by decide)
  have m3 : vr.ownBlock ≠ some w.heap.size := row_blk_ne hr1 hbox (by decide)
  have hp2 : w2.ownsRow B 60 2 (.slice (some ⟨gp, 0, none⟩) ps.length cp) ps.length ((ps.set k (gen, false)).flatMap encPl) := by rw [← hW]; exact hst.drew
  have hg2 : Blk w2 g 56 #[.slice (some ⟨gp, 0, none⟩) ps.length cp, vr] := by rw [← hW]; exact (hg1.far (p := ⟨gp, k * 2 + 1, none⟩) n1 (.bool false)).drew
  have hr2 : w2.ownsRow B 3 1 vr row.length (encN row) := by rw [← hW]; exact (row_far hr1 (p := ⟨gp, k * 2 + 1, none⟩) m1 (.bool false)).drew
  have hb2 : Blk w2 w.heap.size 31 #[.int .i64 k, .int .i64 gen] := by rw [← hW]; exact (hbox.far (p := ⟨gp, k * 2 + 1, none⟩) n3 (.bool false)).drew
  have hf2 : Fr [gp] w w2 := by rw [← hW]; exact ((hf0.any [gp]).setCell (p := ⟨gp, k * 2 + 1, none⟩) (by simp) (.bool false)).drew
  have hw2 : B ≤ w2.heap.size := Nat.le_trans hB hf2.size
  have c1 := hg2.at_ 1 (v := vr) (by rfl)
  have cb := hb2.at_ 0 (v := .int .i64 k) (by rfl)
  have l1 := hg2.lt
  have l3 := hb2.lt
  have q1 := World.new_ne w2 _ c1
  have q2 := World.new_ne w2 _ cb
  have H2 := hide (And.intro hg2 (And.intro hb2 (And.intro hp2 (And.intro hr2 (And.intro hk hf2)))))
  have M := hide (And.intro m1 (And.intro m2 m3))
  have Hr2 := hide hr2
  clear hst hW hg1 hp1 hr1 hk hbox hf0 hg2 hp2 hr2 hb2 hf2 m1 m2 m3 c0 cq fp fg H1
  go_region_law
    ((refine step_append_lies _ (by rfl) _ _ _ (by rfl) B 3 i0 _ 1 8 Tryd.underlying54 hi0 hz0 hz1 hz2 rfl (by omega) vr row.length (encN row) (by rfl) ((Hr2.out.alloc _).drew)
        ⟨w2.heap.size, 0, none⟩ 1 1 [.int .i64 k] (by rfl) (by rfl) (World.news_of_block (cs := #[.int .i64 k]) (t := 3) (fr := (0, 0)) (heap_alloc_new w2 _)) (by simp [Value.oneCell'])
        (by omega) (by unfold maxLen; omega) (by omega) (by simp; omega) (w2.heap.size + 1) (by simp) ?_; intro gg cap w3 hown3 hgrow hat hlt
      have hg3 := hide (((H2.out.1.alloc (.cells #[.int .i64 k] 3)).drew).grown hgrow (Ne.symm M.out.2.1))
      have hc3 := hg3.out.at_ 1 (v := vr) (by rfl)
      have fg3 := hg3.out.frozen 1))
  all_goals
    go_wp2
    go_ret
    obtain ⟨hg2, hb2, hp2, hr2, hk, hf2⟩ := H2.out
    obtain ⟨m1, m2, m3⟩ := M.out
    have hgg : gg ≠ g := by
      rintro rfl
      rcases hat with hat | hat
      · exact m2 hat
      · omega
    have hp3 := row_fr ((hp2.alloc (.cells #[.int .i64 k] 3)).drew) (Fr.of_grown (S := vr.ownBlock.toList) hgrow (fun x hx => .inl (by simp [hx]))) (by
      intro x hx hm
      have hx' : gp = x := by simpa [Value.ownBlock] using hx
      subst hx'
      exact m1 (by simpa using hm))
    have hf3 : Fr (g :: ([gp] ++ vr.ownBlock.toList)) w w3 := (((hf2.mono (T := g :: ([gp] ++ vr.ownBlock.toList)) (by simp)).alloc _).drew).grown hgrow (fun x hx => .inl (by simp [hx]))
    refine ⟨rfl, g :: ([gp] ++ [gg]), ⟨.slice (some ⟨gp, 0, none⟩) ps.length cp, .slice (some ⟨gg, 0, none⟩) (row.length + 1) cap, hBg, ?_, ?_, ?_, rfl⟩, ?_, ?_⟩
    · simpa using hg3.out.set_ 1 (.slice (some ⟨gg, 0, none⟩) (row.length + 1) cap)
    · rw [List.length_set]
      exact row_far hp3 (p := ⟨g, 1, none⟩) (by simp [Value.ownBlock, n1']) _
    · have := row_far hown3 (p := ⟨g, 1, none⟩) (by simp [Value.ownBlock, hgg]) (.slice (some ⟨gg, 0, none⟩) (row.length + 1) cap)
      simpa [encN] using this
    · exact hf3.setCell (p := ⟨g, 1, none⟩) (by simp) _
    · intro x hx
      have hsz := hf2.size
      simp only [List.mem_cons, List.mem_append, List.not_mem_nil, or_false] at hx
      rcases hx with rfl | rfl | rfl
      · exact .inl (by simp)
      · exact .inl (by simp [Value.ownBlock])
      · rcases hat with hat | hat
        · exact .inl (by simp [hat])
        · exact .inr (by omega)

/-! ### What is refused -/
theorem take_full {K : List Nat} {B : Nat} {w : World} {ad : Nat → Addr} (hs : Sents K B w ad) (hK : 6 ∈ K) {g : Nat} {ps : List (Int × Bool)} {S : List Nat} (h : RollR B w g ps [] S) :
    Calls Tryd.prog 8 #[.pointer (some ⟨g, 0, none⟩)] w fun e w' => ∃ v, e = .returned (.tuple #[.agg #[.int .i64 0, .int .i64 0], v]) ∧ NewErr w w' ad v 6 ∧ Fr [] w w' := by
  obtain ⟨vp, vr, hB, hg, hp, hr, rfl⟩ := h
  have lg := hg.lt
  have c2 := hs.cell 6 hK
  simp only [gOf] at c2
  have l2 := World.block_lt_of_cell? w _ c2
  rcases row_form hr with ⟨rfl, _, _⟩ | ⟨gr, cr, rfl, _⟩
  all_goals
    have c1 := hg.at_ 1 (by rfl)
    clear hg hp hr hs
    go_enter Tryd.func8, Tryd.ntmps8
    go_wp2_with fail
    refine (at_sent _).mono ?_
    rintro e w' ⟨v, rfl, hn, hf⟩
    have hz := (Blk.new w 31 #[.int .i64 0, .int .i64 0]).fr0 hf
    have z0 := hz.at_ 0 (v := .int .i64 0) (by rfl)
    have z1 := hz.at_ 1 (v := .int .i64 0) (by rfl)
    have fz := hz.frozen
    have Hz := hide hz
    clear hz
    obtain ⟨t, a, rfl⟩ := hn.form
    have Hn := hide (And.intro hn hf)
    clear hn hf
    go_wp2
    refine bodyPost_ret (v := .tuple #[.agg #[.int .i64 0, .int .i64 0], .iface t (.pointer (some a))]) (by simp [results, Tryd.results8, go_sem, z0, z1]) rfl ⟨_, rfl, ?_, ?_⟩
    · exact ((Hn.out.1.set (p := ⟨w.heap.size, 0, none⟩) (by simp) _).set (p := ⟨w.heap.size, 1, none⟩) (by simp) _).elder (by simp)
    · exact (((Fr.refl _ w).alloc _).trans Hn.out.2).setCell (p := ⟨w.heap.size, 0, none⟩) (by simp) _ |>.setCell (p := ⟨w.heap.size, 1, none⟩) (by simp) _

theorem take_nil {K : List Nat} {B : Nat} {w : World} {ad : Nat → Addr} (hs : Sents K B w ad) (hK : 2 ∈ K) :
    Calls Tryd.prog 8 #[.pointer none] w fun e w' => ∃ v, e = .returned (.tuple #[.agg #[.int .i64 0, .int .i64 0], v]) ∧ NewErr w w' ad v 2 ∧ Fr [] w w' := by
  have c2 := hs.cell 2 hK
  simp only [gOf] at c2
  have l2 := World.block_lt_of_cell? w _ c2
  clear hs
  go_enter Tryd.func8, Tryd.ntmps8
  go_wp2_with fail
  refine (at_sent _).mono ?_
  rintro e w' ⟨v, rfl, hn, hf⟩
  have hz := (Blk.new w 31 #[.int .i64 0, .int .i64 0]).fr0 hf
  have z0 := hz.at_ 0 (v := .int .i64 0) (by rfl)
  have z1 := hz.at_ 1 (v := .int .i64 0) (by rfl)
  have fz := hz.frozen
  clear hz
  obtain ⟨t, a, rfl⟩ := hn.form
  have Hn := hide (And.intro hn hf)
  clear hn hf
  go_wp2
  refine bodyPost_ret (v := .tuple #[.agg #[.int .i64 0, .int .i64 0], .iface t (.pointer (some a))]) (by simp [results, Tryd.results8, go_sem, z0, z1]) rfl ⟨_, rfl, ?_, ?_⟩
  · exact ((Hn.out.1.set (p := ⟨w.heap.size, 0, none⟩) (by simp) _).set (p := ⟨w.heap.size, 1, none⟩) (by simp) _).elder (by simp)
  · exact (((Fr.refl _ w).alloc _).trans Hn.out.2).setCell (p := ⟨w.heap.size, 0, none⟩) (by simp) _ |>.setCell (p := ⟨w.heap.size, 1, none⟩) (by simp) _

theorem free_dead {K : List Nat} {B : Nat} {w : World} {ad : Nat → Addr} (hs : Sents K B w ad) (hK : 17 ∈ K) {g : Nat} {ps : List (Int × Bool)} {row : List Nat} {S : List Nat} (h : RollR B w g ps row S) {i gen : Int} (ha : aliveB ps i gen = false) (hn : ps.length ≤ 1000000) :
    Calls Tryd.prog 10 #[.pointer (some ⟨g, 0, none⟩), .agg #[.int .i64 i, .int .i64 gen]] w fun e w' => ∃ v, e = .returned v ∧ NewErr w w' ad v 17 ∧ Fr [] w w' := by
  have Ha := alive_calls (h.alloc (.cells #[.int .i64 i, .int .i64 gen] 31)) hn i gen
  rw [ha] at Ha
  have HA := hide Ha
  clear Ha ha h
  have Hs := hide hs
  clear hs
  go_enter Tryd.func10, Tryd.ntmps10
  go_wp2_with fail
  refine HA.out.mono ?_
  rintro e w1 ⟨rfl, hf⟩
  have hf0 : Fr [] w w1 := ((Fr.refl [] w).alloc _).trans hf
  have hc := (Hs.out.fr0 hf0).cell 17 hK
  simp only [gOf] at hc
  have Hf := hide hf0
  clear hf hf0
  go_wp2_with fail
  refine (at_sent _).mono ?_
  rintro e w' ⟨v, rfl, hn, hf⟩
  obtain ⟨t, a, rfl⟩ := hn.form
  have Hn := hide (And.intro hn hf)
  clear hn hf
  go_wp2
  go_ret
  exact ⟨_, rfl, Hn.out.1.elder Hf.out.size, Hf.out.trans Hn.out.2⟩
end Go.Proofs.YtghffjlgiclieaaDoor

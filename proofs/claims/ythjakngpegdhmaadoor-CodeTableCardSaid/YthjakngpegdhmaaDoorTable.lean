/- The table of operations, and what of it is told: of, Name, Args, Moves, Jumps of package code. -/
import Derived.Test.YthjakngpegdhmaaDoorRest
import Derived.Laws.Rows
namespace Go.Proofs.YthjakngpegdhmaaDoor
open Go.RowKit

structure R where
  w : List UInt8
  a : Int
  t : Int
  l : Int
deriving DecidableEq
def rowsL : List R := [⟨[110, 111, 112], 0, 0, 0⟩, ⟨[112, 117, 115, 104], 1, 0, 1⟩, ⟨[100, 117, 112], 0, 1, 2⟩, ⟨[100, 114, 111, 112], 0, 1, 0⟩, ⟨[115, 119, 97, 112], 0, 2, 2⟩, ⟨[111, 118, 101, 114], 0, 2, 3⟩, ⟨[97, 100, 100], 0, 2, 1⟩, ⟨[115, 117, 98], 0, 2, 1⟩, ⟨[109, 117, 108], 0, 2, 1⟩, ⟨[100, 105, 118], 0, 2, 1⟩, ⟨[109, 111, 100], 0, 2, 1⟩, ⟨[110, 101, 103], 0, 1, 1⟩, ⟨[97, 110, 100], 0, 2, 1⟩, ⟨[111, 114], 0, 2, 1⟩, ⟨[120, 111, 114], 0, 2, 1⟩, ⟨[115, 104, 108], 0, 2, 1⟩, ⟨[115, 104, 114], 0, 2, 1⟩, ⟨[101, 113], 0, 2, 1⟩, ⟨[108, 116], 0, 2, 1⟩, ⟨[110, 111, 116], 0, 1, 1⟩, ⟨[106, 117, 109, 112], 1, 0, 0⟩, ⟨[122, 101, 114, 111], 1, 1, 0⟩, ⟨[108, 111, 97, 100], 2, 0, 1⟩, ⟨[115, 116, 111, 114, 101], 2, 1, 0⟩, ⟨[104, 97, 115], 1, 0, 1⟩, ⟨[105, 110, 112, 117, 116], 1, 0, 1⟩, ⟨[114, 101, 115], 1, 0, 1⟩, ⟨[115, 101, 116, 114, 101, 115], 1, 1, 0⟩, ⟨[114, 97, 110, 100], 0, 1, 1⟩, ⟨[105, 100], 0, 0, 1⟩, ⟨[102, 114, 97, 109, 101], 0, 0, 1⟩, ⟨[115, 112, 97, 119, 110], 1, 0, 0⟩, ⟨[100, 101, 115, 112, 97, 119, 110], 0, 0, 0⟩, ⟨[105, 110, 115, 101, 114, 116], 1, 0, 0⟩, ⟨[114, 101, 109, 111, 118, 101], 1, 0, 0⟩, ⟨[104, 97, 108, 116], 0, 0, 0⟩]
def zR : R := ⟨[], 0, 0, 0⟩
def encR (r : R) : List Value := [.string ⟨r.w.toArray⟩, .int .i64 r.a, .int .i64 r.t, .int .i64 r.l]
theorem encR_len : ∀ r, (encR r).length = 4 := fun _ => rfl
def rowCells : List Value := rowsL.flatMap encR
/-- is it an operation -/
def isOp (op : Int) : Bool := decide (0 ≤ op ∧ op < 36)
def rowOf (op : Int) : R := if 0 ≤ op ∧ op < 36 then rowsL.getD op.toNat zR else zR
/-- the table lies as its own initialiser lays it -/
def RowsT (w : World) : Prop := ∃ t, Blk w 1 t rowCells.toArray
theorem RowsT.fr0 {w w' : World} (h : RowsT w) (hf : Fr [] w w') : RowsT w' := h.elim fun t h => ⟨t, h.fr0 hf⟩
theorem RowsT.below {B : Nat} {w w' : World} (h : RowsT w) (hB : 1 < B) (hb : Below B w w') : RowsT w' := h.elim fun t h => ⟨t, (hb.block 1 hB).trans h⟩
theorem rows_len : rowsL.length = 36 := by decide
theorem RowsT.cell {w : World} (h : RowsT w) {k : Nat} (hk : k < 36) (j : Nat) (hj : j < 4) {v : Value} (hv : (encR (rowsL.getD k zR))[j]? = some v) : w.cell? ⟨1, k * 4 + j, none⟩ = some v := by
  obtain ⟨t, hb⟩ := h
  refine hb.at_ _ ?_
  have hx : rowsL[k]? = some (rowsL.getD k zR) := by
    rw [List.getElem?_eq_getElem (by rw [rows_len]; exact hk), List.getD_eq_getElem?_getD, List.getElem?_eq_getElem (by rw [rows_len]; exact hk)]; rfl
  rw [List.getElem?_toArray]
  exact (flat_get encR_len hx j hj).trans hv

set_option maxRecDepth 100000 in
set_option maxHeartbeats 1000000 in
theorem of_calls {w : World} (hT : RowsT w) (op : Int) :
    Calls Tryd.prog 20 #[.int .i64 op] w fun e w' => e = .returned (.tuple #[.agg (encR (rowOf op)).toArray, .bool (isOp op)]) ∧ Fr [] w w' := by
  have hlt : 1 < w.heap.size := hT.elim fun t h => h.lt
  by_cases h0 : op < 0
  · have e1 : rowOf op = zR := if_neg (by omega)
    have e2 : isOp op = false := decide_eq_false (by omega)
    rw [e1, e2]
    clear hT e1 e2
    go_enter Tryd.func20, Tryd.ntmps20
    go_wp2_with fail
    refine bodyPost_ret (v := .tuple #[.agg (encR zR).toArray, .bool false]) (by simp [results, Tryd.results20, go_sem, encR, zR]) rfl ⟨rfl, ?_⟩
    (repeat (first | exact Fr.refl _ _ | apply Fr.drew | apply Fr.drewN | apply Fr.alloc | (refine Fr.setCell ?_ (by first | (left; simp [Value.ownBlock]; done) | (right; simp; omega) | (right; simp; done)) _)))
  · obtain ⟨k, rfl⟩ := Int.eq_ofNat_of_zero_le (a := op) (by omega)
    by_cases h1 : 36 ≤ k
    · have e1 : rowOf (k : Int) = zR := if_neg (by omega)
      have e2 : isOp (k : Int) = false := decide_eq_false (by omega)
      rw [e1, e2]
      clear hT e1 e2
      go_enter Tryd.func20, Tryd.ntmps20
      go_wp2_with fail
      refine bodyPost_ret (v := .tuple #[.agg (encR zR).toArray, .bool false]) (by simp [results, Tryd.results20, go_sem, encR, zR]) rfl ⟨rfl, ?_⟩
      (repeat (first | exact Fr.refl _ _ | apply Fr.drew | apply Fr.drewN | apply Fr.alloc | (refine Fr.setCell ?_ (by first | (left; simp [Value.ownBlock]; done) | (right; simp; omega) | (right; simp; done)) _)))
    · have e1 : rowOf (k : Int) = rowsL.getD k zR := by unfold rowOf; rw [if_pos (by omega)]; rfl
      have e2 : isOp (k : Int) = true := decide_eq_true (by omega)
      rw [e1, e2]
      have c0 := hT.cell (k := k) (by omega) 0 (by omega) rfl
      have c1 := hT.cell (k := k) (by omega) 1 (by omega) rfl
      have c2 := hT.cell (k := k) (by omega) 2 (by omega) rfl
      have c3 := hT.cell (k := k) (by omega) 3 (by omega) rfl
      generalize rowsL.getD k zR = r at *
      obtain ⟨rw_, ra, rt, rl⟩ := r
      rw [Nat.add_zero] at c0
      simp only at c0 c1 c2 c3
      have k0 : (0 : Int) ≤ (k : Int) := by omega
      have k1 : (k : Int) < 36 := by omega
      clear hT e1 e2
      go_enter Tryd.func20, Tryd.ntmps20
      go_wp2_with fail
      refine bodyPost_ret (v := .tuple #[.agg (encR ⟨rw_, ra, rt, rl⟩).toArray, .bool true]) (by simp [results, Tryd.results20, go_sem, encR]) rfl ⟨rfl, ?_⟩
      (repeat (first | exact Fr.refl _ _ | apply Fr.drew | apply Fr.drewN | apply Fr.alloc | (refine Fr.setCell ?_ (by first | (left; simp [Value.ownBlock]; done) | (right; simp; omega) | (right; simp; done)) _)))
theorem name_calls {w : World} (hT : RowsT w) (op : Int) : Calls Tryd.prog 12 #[.int .i64 op] w fun e w' => e = .returned (.string ⟨(rowOf op).w.toArray⟩) ∧ Fr [] w w' := by
  have H := hide (of_calls hT op)
  generalize rowOf op = r at *
  obtain ⟨rw_, ra, rt, rl⟩ := r
  clear hT
  go_enter Tryd.func12, Tryd.ntmps12
  go_wp2_with fail
  refine H.out.mono ?_
  rintro e w' ⟨rfl, hf⟩
  have Hf := hide hf
  clear hf
  simp only [encR]
  go_wp2_with fail
  go_ret
  refine ⟨rfl, Hf.out.step (T := []) ?_ (by simp)⟩
  (repeat (first | exact Fr.refl _ _ | apply Fr.drew | apply Fr.drewN | apply Fr.alloc | (refine Fr.setCell ?_ (by first | (left; simp [Value.ownBlock]; done) | (right; simp; omega) | (right; simp; done)) _)))
theorem args_calls {w : World} (hT : RowsT w) (op : Int) : Calls Tryd.prog 13 #[.int .i64 op] w fun e w' => e = .returned (.int .i64 (rowOf op).a) ∧ Fr [] w w' := by
  have H := hide (of_calls hT op)
  generalize rowOf op = r at *
  obtain ⟨rw_, ra, rt, rl⟩ := r
  clear hT
  go_enter Tryd.func13, Tryd.ntmps13
  go_wp2_with fail
  refine H.out.mono ?_
  rintro e w' ⟨rfl, hf⟩
  have Hf := hide hf
  clear hf
  simp only [encR]
  go_wp2_with fail
  go_ret
  refine ⟨rfl, Hf.out.step (T := []) ?_ (by simp)⟩
  (repeat (first | exact Fr.refl _ _ | apply Fr.drew | apply Fr.drewN | apply Fr.alloc | (refine Fr.setCell ?_ (by first | (left; simp [Value.ownBlock]; done) | (right; simp; omega) | (right; simp; done)) _)))
theorem moves_calls {w : World} (hT : RowsT w) (op : Int) : Calls Tryd.prog 10 #[.int .i64 op] w fun e w' => e = .returned (.tuple #[.int .i64 (rowOf op).t, .int .i64 (rowOf op).l]) ∧ Fr [] w w' := by
  have H := hide (of_calls hT op)
  generalize rowOf op = r at *
  obtain ⟨rw_, ra, rt, rl⟩ := r
  clear hT
  go_enter Tryd.func10, Tryd.ntmps10
  go_wp2_with fail
  refine H.out.mono ?_
  rintro e w' ⟨rfl, hf⟩
  have Hf := hide hf
  clear hf
  simp only [encR]
  go_wp2_with fail
  go_quiet (fail)
  go_wp2_with fail
  go_ret2
  refine ⟨rfl, (Hf.out.step (T := []) ((Fr.refl _ _).alloc _) (by simp)).drewN _⟩
def jumpsB (op : Int) : Bool := decide (op = 20 ∨ op = 21)
def onB (op : Int) : Bool := isOp op && decide (op ≠ 20) && decide (op ≠ 35)
theorem jumps_calls {w : World} (hT : RowsT w) (op : Int) : Calls Tryd.prog 11 #[.int .i64 op] w fun e w' => e = .returned (.tuple #[.bool (jumpsB op), .bool (onB op)]) ∧ Fr [] w w' := by
  have H0 := of_calls hT op
  obtain ⟨r, hr⟩ : ∃ r, r = rowOf op := ⟨_, rfl⟩
  rw [← hr] at H0
  have H := hide H0
  clear hT hr H0
  obtain ⟨rw_, ra, rt, rl⟩ := r
  by_cases h1 : op = 35
  · subst h1
    rw [show jumpsB 35 = false from rfl, show onB 35 = false from rfl]
    go_enter Tryd.func11, Tryd.ntmps11
    go_wp2_with fail
    refine H.out.mono ?_
    rintro e w' ⟨rfl, hf⟩
    have Hf := hide hf
    clear hf
    simp only [encR]
    go_wp2_with fail
    go_ret2
    refine ⟨rfl, Hf.out.step (T := []) ?_ (by simp)⟩
    (repeat (first | exact Fr.refl _ _ | apply Fr.drew | apply Fr.drewN | apply Fr.alloc | (refine Fr.setCell ?_ (by first | (left; simp [Value.ownBlock]; done) | (right; simp; omega) | (right; simp; done)) _)))
  · by_cases h2 : op = 20
    · subst h2
      rw [show jumpsB 20 = true from rfl, show onB 20 = false from rfl]
      go_enter Tryd.func11, Tryd.ntmps11
      go_wp2_with fail
      refine H.out.mono ?_
      rintro e w' ⟨rfl, hf⟩
      have Hf := hide hf
      clear hf
      simp only [encR]
      go_wp2_with fail
      go_ret2
      refine ⟨rfl, Hf.out.step (T := []) ?_ (by simp)⟩
      (repeat (first | exact Fr.refl _ _ | apply Fr.drew | apply Fr.drewN | apply Fr.alloc | (refine Fr.setCell ?_ (by first | (left; simp [Value.ownBlock]; done) | (right; simp; omega) | (right; simp; done)) _)))
    · have hon : onB op = isOp op := by simp [onB, h1, h2]
      rw [hon]
      have b1 : (op == 35) = false := by simp [h1]
      have b2 : (op == 20) = false := by simp [h2]
      by_cases h3 : op = 21
      · subst h3
        rw [show jumpsB 21 = true from rfl]
        generalize isOp 21 = b at *
        clear h1 h2 hon b1 b2
        go_enter Tryd.func11, Tryd.ntmps11
        go_wp2_with fail
        refine H.out.mono ?_
        rintro e w' ⟨rfl, hf⟩
        have Hf := hide hf
        clear hf
        simp only [encR]
        go_wp2_with fail
        go_ret2
        refine ⟨rfl, Hf.out.step (T := []) ?_ (by simp)⟩
        (repeat (first | exact Fr.refl _ _ | apply Fr.drew | apply Fr.drewN | apply Fr.alloc | (refine Fr.setCell ?_ (by first | (left; simp [Value.ownBlock]; done) | (right; simp; omega) | (right; simp; done)) _)))
      · rw [show jumpsB op = false from decide_eq_false (by omega)]
        have b3 : (op == 21) = false := by simp [h3]
        generalize isOp op = b at *
        clear h1 h2 hon h3
        go_enter Tryd.func11, Tryd.ntmps11
        go_wp2_with fail
        refine H.out.mono ?_
        rintro e w' ⟨rfl, hf⟩
        have Hf := hide hf
        clear hf
        simp only [encR]
        go_wp2_with fail
        go_ret2
        refine ⟨rfl, Hf.out.step (T := []) ?_ (by simp)⟩
        (repeat (first | exact Fr.refl _ _ | apply Fr.drew | apply Fr.drewN | apply Fr.alloc | (refine Fr.setCell ?_ (by first | (left; simp [Value.ownBlock]; done) | (right; simp; omega) | (right; simp; done)) _)))
/-! ### Find -/
theorem rowsSize : (Tryd.prog.info? 66).map (·.size) = some rowCells.toArray.size := by kernel_rfl
theorem index_row : ∀ (k : Nat) (_ : k < 36) (w : World), (Instr.index 66 (.agg rowCells.toArray) (.int .i64 k)).run Tryd.prog w = .ok (.agg (encR (rowsL.getD k zR)).toArray) w
  | 0, _, w => by kernel_rfl
  | 1, _, w => by kernel_rfl
  | 2, _, w => by kernel_rfl
  | 3, _, w => by kernel_rfl
  | 4, _, w => by kernel_rfl
  | 5, _, w => by kernel_rfl
  | 6, _, w => by kernel_rfl
  | 7, _, w => by kernel_rfl
  | 8, _, w => by kernel_rfl
  | 9, _, w => by kernel_rfl
  | 10, _, w => by kernel_rfl
  | 11, _, w => by kernel_rfl
  | 12, _, w => by kernel_rfl
  | 13, _, w => by kernel_rfl
  | 14, _, w => by kernel_rfl
  | 15, _, w => by kernel_rfl
  | 16, _, w => by kernel_rfl
  | 17, _, w => by kernel_rfl
  | 18, _, w => by kernel_rfl
  | 19, _, w => by kernel_rfl
  | 20, _, w => by kernel_rfl
  | 21, _, w => by kernel_rfl
  | 22, _, w => by kernel_rfl
  | 23, _, w => by kernel_rfl
  | 24, _, w => by kernel_rfl
  | 25, _, w => by kernel_rfl
  | 26, _, w => by kernel_rfl
  | 27, _, w => by kernel_rfl
  | 28, _, w => by kernel_rfl
  | 29, _, w => by kernel_rfl
  | 30, _, w => by kernel_rfl
  | 31, _, w => by kernel_rfl
  | 32, _, w => by kernel_rfl
  | 33, _, w => by kernel_rfl
  | 34, _, w => by kernel_rfl
  | 35, _, w => by kernel_rfl
  | n + 36, h, _ => absurd h (by omega)
/-- the first operation of a word -/
def findL (word : List UInt8) : List R → Nat → Int × Bool
  | [], _ => (0, false)
  | r :: rs, k => if r.w = word then (k, true) else findL word rs (k + 1)
def findP (word : List UInt8) : Int × Bool := findL word rowsL 0
theorem findL_none {word : List UInt8} : ∀ {rs : List R} {k : Nat}, (∀ r ∈ rs, r.w ≠ word) → findL word rs k = (0, false)
  | [], _, _ => rfl
  | r :: rs, k, h => by
    unfold findL
    rw [if_neg (h r (by simp)), findL_none fun x hx => h x (by simp [hx])]
theorem findL_some {word : List UInt8} : ∀ {rs : List R} {k j : Nat} {r : R}, rs[j]? = some r → r.w = word → (∀ i x, i < j → rs[i]? = some x → x.w ≠ word) → findL word rs k = (((k + j : Nat) : Int), true)
  | [], _, _, _, h, _, _ => by simp at h
  | a :: rs, k, 0, r, h, hr, _ => by
    simp at h
    subst h
    unfold findL
    rw [if_pos hr]
    rfl
  | a :: rs, k, j + 1, r, h, hr, hlt => by
    unfold findL
    rw [if_neg (hlt 0 a (by omega) rfl), findL_some (by simpa using h) hr fun i x hi hx => hlt (i + 1) x (by omega) (by simpa using hx)]
    congr 2
    omega
theorem bytes_ne {a : List UInt8} {s : ByteArray} (h : a ≠ s.data.toList) : (⟨a.toArray⟩ : ByteArray) ≠ s := fun e => h (by rw [← e])
theorem bytes_eq (s : ByteArray) : (⟨s.data.toList.toArray⟩ : ByteArray) = s := by cases s; rfl
set_option maxRecDepth 100000 in
set_option maxHeartbeats 1000000 in
theorem find_calls {w : World} (hT : RowsT w) (s : ByteArray) : Calls Tryd.prog 14 #[.string s] w fun e w' => e = .returned (.tuple #[.int .i64 (findP s.data.toList).1, .bool (findP s.data.toList).2]) ∧ Fr [] w w' := by
  have hT0 := hide hT
  obtain ⟨t, hb⟩ := hT
  go_enter Tryd.func14, Tryd.ntmps14
  go_wp2_with (refine wpList_load_row rfl 66 _ rfl 1 rfl t rowCells.toArray (0, 0) _ hb Tryd.underlying66 rfl rowsSize ?_)
  generalize hrc : rowCells.toArray = rc
  have Hrc := hide hrc
  clear hrc hb
  go_loopw [7] (fun s7 wr => ∃ k : Nat, k ≤ 36 ∧ s7 = .int .i64 k ∧ Fr [] w wr ∧ ∀ j x, j < k → rowsL[j]? = some x → x.w ≠ s.data.toList) (fun s7 _ => 36 - (intOf s7).toNat)
  case atStart => exact ⟨0, by omega, rfl, Fr.refl _ _, fun j x hj => absurd hj (Nat.not_lt_zero _)⟩
  case round =>
    obtain ⟨k, hk, rfl, hf, hall⟩ := hrel
    by_cases hk1 : k < 36
    · have hix := fun W => index_row k hk1 W
      rw [Hrc.out] at hix
      have hx : rowsL[k]? = some (rowsL.getD k zR) := by
        rw [List.getElem?_eq_getElem (by rw [rows_len]; exact hk1), List.getD_eq_getElem?_getD, List.getElem?_eq_getElem (by rw [rows_len]; exact hk1)]; rfl
      generalize rowsL.getD k zR = r at *
      obtain ⟨rw_, ra, rt, rl⟩ := r
      simp only [encR] at hix
      have H := hide (And.intro hf (And.intro hall hx))
      clear hf hall hx
      by_cases he : rw_ = s.data.toList
      · have hs : (⟨rw_.toArray⟩ : ByteArray) = s := (congrArg (fun l : List UInt8 => (⟨l.toArray⟩ : ByteArray)) he).trans (bytes_eq s)
        rw [hs] at hix
        have He := hide he
        clear he hs
        go_wp2_with fail
        go_ret2
        have hp : findP s.data.toList = ((k : Int), true) := by
          have := findL_some (word := s.data.toList) (k := 0) H.out.2.2 He.out H.out.2.1
          rw [Nat.zero_add] at this
          exact this
        rw [hp]
        exact ⟨rfl, H.out.1.alloc _⟩
      · have hs : (rw_ == s.toList) = false := by rw [ByteArray.toList_eq]; simpa using he
        have He := hide he
        clear he
        go_wp2_with fail
        go_roundw
        case rel =>
          obtain ⟨hf, hall, hx⟩ := H.out
          refine ⟨k + 1, by omega, by go_num, hf.alloc _, fun j x hj hjx => ?_⟩
          by_cases e : j = k
          · subst e
            rw [hx] at hjx
            obtain rfl := Option.some.inj hjx
            exact He.out
          · exact hall j x (by omega) hjx
        case measure => simp [intOf]; omega
    · have hp : findP s.data.toList = (0, false) := findL_none fun r hr => by
        obtain ⟨j, hj⟩ := List.mem_iff_getElem?.1 hr
        have := (List.getElem?_eq_some_iff.1 hj).1
        rw [rows_len] at this
        exact hall j r (by omega) hj
      have Hf := hide (And.intro hf hp)
      clear hf hall hp
      go_wp2_with fail
      go_ret2
      exact ⟨by rw [Hf.out.2]; rfl, Hf.out.1⟩
end Go.Proofs.YthjakngpegdhmaaDoor

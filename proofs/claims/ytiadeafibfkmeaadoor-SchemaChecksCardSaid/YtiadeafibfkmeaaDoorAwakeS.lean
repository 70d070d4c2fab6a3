/- awake of the statements of layer 5. -/
import Derived.Test.YtiadeafibfkmeaaDoorPartEq
import Derived.Test.YtiadeafibfkmeaaDoorCheckS
namespace Go.Proofs.YtiadeafibfkmeaaDoor
open Go.RowKit
theorem Sents.rebase {K : List Nat} {B : Nat} {w : World} {ad : Nat → Addr} (h : Sents K B w ad) : Sents K w.heap.size w ad :=
  ⟨Nat.le_refl _, fun k m => Nat.lt_of_lt_of_le (h.glob k m) h.le, h.cell, fun k m => Nat.lt_of_lt_of_le (h.lt k m) h.le, h.blk, h.inj⟩
theorem eql_part_true (p : Pt) (W : World) : (binOp .eql 42 (encP p) (encP p)).run Tryd.prog W = .ok (.bool true) W := by
  rw [(eql_part p p W).1, decide_eq_true rfl]
theorem ba_list (a b : ByteArray) : a.toList = b.toList ↔ a = b := ⟨fun h => ByteArray.ext (Array.ext' (by rw [← ByteArray.toList_eq, ← ByteArray.toList_eq]; exact h)), fun h => by rw [h]⟩
theorem eql_leaf (x y : Lf) (W : World) : (binOp .eql 36 (.agg #[.string x.1, .int .i64 x.2]) (.agg #[.string y.1, .int .i64 y.2])).run Tryd.prog W = .ok (.bool (decide (x = y))) W := by
  obtain ⟨a, i⟩ := x
  obtain ⟨b, j⟩ := y
  have hi : ((i : Int) = (j : Int)) ↔ i = j := by omega
  have hb := ba_list a b
  by_cases h1 : a = b <;> by_cases h2 : i = j <;> simp [go_sem, h1, h2, hi, hb]
theorem eql_nil_nil (W : World) : (binOp .eql 29 .nilIface .nilIface).run Tryd.prog W = .ok (.bool true) W := by kernel_rfl
abbrev sPos : ByteArray := ⟨#[112, 111, 115]⟩
def c0S : Cp := ⟨sPos, 2, true, 0, 0, 0, 0⟩
def c1S : Cp := ⟨sPos, 9, false, 0, 0, 0, 0⟩
def sa0 (b : Nat) : Sa := ⟨some ⟨b, 0, none⟩, 2, 2, [c0S, c1S], none, 0, 0, []⟩
def saE : Sa := ⟨none, 0, 0, [], none, 0, 0, []⟩
theorem sa0_fl (b : Nat) : allFl (sa0 b) = [([sComps, ⟨#[49]⟩, sName], 9), ([sComps, ⟨#[49]⟩, sWidth], 1)] := by kernel_rfl
theorem saE_fl : allFl saE = [] := by kernel_rfl
theorem saE_ok (w : World) (B : Nat) : SaOk w B saE := ⟨rfl, by simp [saE], by simp [saE], by simp [saE], ⟨rfl, fun h => by simp [saE] at h⟩, rfl, by simp [saE], by simp [saE], by simp [saE], ⟨rfl, fun h => by simp [saE] at h⟩⟩
theorem sa0_ok {w : World} {b : Nat} (h : Blk w b 47 ([c0S, c1S].flatMap encC).toArray) : SaOk w w.heap.size (sa0 b) :=
  ⟨rfl, by simp [sa0], by simp [sa0], by intro x hx; simp [sa0] at hx; rcases hx with rfl | rfl <;> decide, ⟨rfl, fun _ => ⟨b, 0, rfl, h.lt, fun j u hu => by rw [Nat.zero_add]; exact h.at_ j (by rw [← hu]; simp [sa0])⟩⟩, rfl, by simp [sa0], by simp [sa0], by simp [sa0], ⟨rfl, fun h => by simp [sa0] at h⟩⟩
set_option maxRecDepth 100000 in
set_option maxHeartbeats 8000000 in
theorem awake_calls {w : World} {ad : Nat → Addr} (hs : Sents All18 w.heap.size w ad) : Calls Tryd.prog 8 #[] w fun e w' => e = .returned (.bool true) ∧ Fr [] w w' := by
  have H0 := hide hs
  clear hs
  go_enter Tryd.func8, Tryd.ntmps8
  go_upto_region 2 with (fail)
  have hbc : ∀ o, Blk ((w.alloc (.cells ([c0S, c1S].flatMap encC).toArray 47)).alloc o) w.heap.size 47 ([c0S, c1S].flatMap encC).toArray := fun o => (Blk.new w _ _).alloc o
  have hbs : ∀ o, Blk ((w.alloc o).alloc (.cells #[.slice (some ⟨w.heap.size, 0, none⟩) 2 2, .slice none 0 0] 25)) (w.heap.size + 1) 25 #[.slice (some ⟨w.heap.size, 0, none⟩) 2 2, .slice none 0 0] := fun o => Blk.new_at _ _ _ _ (by simp)
  have hbc2 := hbc (.cells #[.slice (some ⟨w.heap.size, 0, none⟩) 2 2, .slice none 0 0] 25)
  have hbs2 := hbs (.cells ([c0S, c1S].flatMap encC).toArray 47)
  have hf2 : Fr [] w ((w.alloc (.cells ([c0S, c1S].flatMap encC).toArray 47)).alloc (.cells #[.slice (some ⟨w.heap.size, 0, none⟩) 2 2, .slice none 0 0] 25)) := ((Fr.refl _ _).alloc _).alloc _
  rw [show (#[.string ⟨#[112, 111, 115]⟩, .int .i64 2, .bool true, .int .i64 0, .int .i64 0, .int .i64 0, .int .i64 0, .string ⟨#[112, 111, 115]⟩, .int .i64 9, .bool false, .int .i64 0, .int .i64 0, .int .i64 0, .int .i64 0] : Array Value) = ([c0S, c1S].flatMap encC).toArray from rfl]
  generalize (w.alloc (.cells ([c0S, c1S].flatMap encC).toArray 47)).alloc (.cells #[.slice (some ⟨w.heap.size, 0, none⟩) 2 2, .slice none 0 0] 25) = w2 at *
  have hs2 := (H0.out.fr0 hf2).rebase
  have hok2 := sa0_ok hbc2
  have p0 := hbs2.at_ 0 (v := .slice (some ⟨w.heap.size, 0, none⟩) 2 2) rfl
  have p1 := hbs2.at_ 1 (v := .slice none 0 0) rfl
  have lp := hbs2.lt
  have H2 := hide (And.intro hs2 (And.intro hok2 (And.intro hbs2 hf2)))
  clear hbc hbs hbc2 hbs2 hf2 hs2 hok2
  generalize hb : w.heap.size = b at *
  clear hb
  go_wp2_with fail
  refine (check_calls (s := sa0 b) H2.out.1 H2.out.2.1).mono ?_
  rintro e w3 ⟨v3, rfl, hv3, hf3⟩
  rw [sa0_fl] at hv3
  have H3 := hide (And.intro hv3 hf3)
  clear hv3 hf3
  go_wp2_with fail
  refine (H3.out.1.leaves (H2.out.1.fr0 H3.out.2) (by simp) (by intro c hc; simp only [List.mem_cons, List.not_mem_nil, or_false] at hc; rcases hc with rfl | rfl <;> exact ⟨by simp, by decide⟩)).mono ?_
  rintro e w4 ⟨v4, rfl, hr, hf⟩
  have j1 : lf ([sComps, ⟨#[49]⟩, sName], 9) = (⟨#[99, 111, 109, 112, 111, 110, 101, 110, 116, 115, 47, 49, 47, 110, 97, 109, 101]⟩, 9) := by kernel_rfl
  have j2 : lf ([sComps, ⟨#[49]⟩, sWidth], 1) = (⟨#[99, 111, 109, 112, 111, 110, 101, 110, 116, 115, 47, 49, 47, 119, 105, 100, 116, 104]⟩, 1) := by kernel_rfl
  rw [List.map_cons, List.map_cons, List.map_nil, j1, j2] at hr
  change w4.ownsRow w3.heap.size 36 2 v4 2 [.string ⟨#[99, 111, 109, 112, 111, 110, 101, 110, 116, 115, 47, 49, 47, 110, 97, 109, 101]⟩, .int .i64 9, .string ⟨#[99, 111, 109, 112, 111, 110, 101, 110, 116, 115, 47, 49, 47, 119, 105, 100, 116, 104]⟩, .int .i64 1] at hr
  rcases row_form hr with ⟨_, h0, _⟩ | ⟨g4, c4, rfl, _, lg, _, _⟩
  · cases h0
  have hf24 := H3.out.2.trans hf
  have q0 := (hf24.cell (p := ⟨b + 1, 0, none⟩) lp (by simp)).trans p0
  have q1 := (hf24.cell (p := ⟨b + 1, 1, none⟩) lp (by simp)).trans p1
  have lq := Nat.lt_of_lt_of_le lp hf24.size
  have H4 := hide (And.intro hr hf24)
  clear hr hf hf24 j1 j2
  go_wp2_with fail
  refine (newP_in (s := sa0 b) (x := c0S) (k := 0) (H2.out.2.1.fr H4.out.2 (by simp) (Nat.le_refl _)) H4.out.2.size rfl 7).mono ?_
  rintro e w5 ⟨rfl, hf⟩
  have H5 := hide (H4.out.2.trans hf)
  have H45 := hide hf
  have hb5 := (H2.out.2.2.1.fr0 H5.out).alloc (.cells #[.int .i64 0, .int .i64 0, .int .i64 0, .int .i64 0, .int .i64 0, .int .i64 7] 42)
  have r0 := hb5.at_ 0 (v := .slice (some ⟨b, 0, none⟩) 2 2) rfl
  have r1 := hb5.at_ 1 (v := .slice none 0 0) rfl
  have lr := hb5.lt
  clear hf hb5
  simp only [show c0S.d0 = 0 from rfl, show c0S.d1 = 0 from rfl, show c0S.d2 = 0 from rfl, show c0S.d3 = 0 from rfl, show ((0 : Nat) : Int) = 0 from rfl]
  go_wp2_with fail
  have hbp5 := Blk.new w5 42 #[.int .i64 0, .int .i64 0, .int .i64 0, .int .i64 0, .int .i64 0, .int .i64 7]
  have hf45 : Fr [] w4 (w5.alloc (.cells #[.int .i64 0, .int .i64 0, .int .i64 0, .int .i64 0, .int .i64 0, .int .i64 7] 42)) := H45.out.alloc _
  have hf5 : Fr [] w2 (w5.alloc (.cells #[.int .i64 0, .int .i64 0, .int .i64 0, .int .i64 0, .int .i64 0, .int .i64 7] 42)) := H5.out.alloc _
  generalize hb5 : w5.heap.size = bp at *
  generalize w5.alloc (.cells #[.int .i64 0, .int .i64 0, .int .i64 0, .int .i64 0, .int .i64 0, .int .i64 7] 42) = w6 at *
  refine (newP_out (H2.out.1.fr0 hf5) (sa0 b) 2 7 (.inr (by simp [sa0])) (by simp [sa0])).mono ?_
  rintro e w7 ⟨b7, rfl, hc7, hf⟩
  have hf8 : Fr [] w7 (w7.alloc (.cells #[.int .i64 0, .int .i64 0, .int .i64 0, .int .i64 0, .int .i64 0, .int .i64 0] 42)) := (Fr.refl _ _).alloc _
  have hr8 := row_fr H4.out.1 ((hf45.trans hf).trans hf8) (by simp)
  have H7 := hide (And.intro (hf5.trans (hf.trans hf8)) (And.intro (hbp5.fr0 (hf.trans hf8)) (hc7.fr0 hf8)))
  clear hbp5 hf5 hb5 hf hc7 q0 q1 lq r0 r1 lr H45 hf45 hf8
  go_upto_region 5 with (fail)
  generalize w7.alloc (.cells #[.int .i64 0, .int .i64 0, .int .i64 0, .int .i64 0, .int .i64 0, .int .i64 0] 42) = w8 at *
  have m0 := row_cell hr8 (i := 0) rfl
  have m1 := row_cell hr8 (i := 1) rfl
  have m2 := row_cell hr8 (i := 2) rfl
  have m3 := row_cell hr8 (i := 3) rfl
  have lm : g4 < w8.heap.size := (row_lt hr8 rfl).1
  have n0 := H7.out.2.1.at_ 0 (v := .int .i64 0) rfl
  have n1 := H7.out.2.1.at_ 1 (v := .int .i64 0) rfl
  have n2 := H7.out.2.1.at_ 2 (v := .int .i64 0) rfl
  have n3 := H7.out.2.1.at_ 3 (v := .int .i64 0) rfl
  have n4 := H7.out.2.1.at_ 4 (v := .int .i64 0) rfl
  have n5 := H7.out.2.1.at_ 5 (v := .int .i64 7) rfl
  have ln := H7.out.2.1.lt
  have hq1 := eql_leaf (⟨#[99, 111, 109, 112, 111, 110, 101, 110, 116, 115, 47, 49, 47, 110, 97, 109, 101]⟩, 9) (⟨#[99, 111, 109, 112, 111, 110, 101, 110, 116, 115, 47, 49, 47, 110, 97, 109, 101]⟩, 9)
  have hq2 := eql_leaf (⟨#[99, 111, 109, 112, 111, 110, 101, 110, 116, 115, 47, 49, 47, 119, 105, 100, 116, 104]⟩, 1) (⟨#[99, 111, 109, 112, 111, 110, 101, 110, 116, 115, 47, 49, 47, 119, 105, 100, 116, 104]⟩, 1)
  rw [decide_eq_true rfl] at hq1 hq2
  have hqp : ∀ W, (binOp .eql 42 (.agg #[.int .i64 0, .int .i64 0, .int .i64 0, .int .i64 0, .int .i64 0, .int .i64 7]) (.agg #[.int .i64 0, .int .i64 0, .int .i64 0, .int .i64 0, .int .i64 0, .int .i64 7])).run Tryd.prog W = .ok (.bool true) W := fun W => eql_part_true ⟨0, 0, 0, 0, 0, 7⟩ W
  have hnn := eql_nil_nil
  have G := hide (fun W (hf : Fr [] w8 W) => H2.out.1.fr0 (H7.out.1.trans hf))
  have g1 := (G.out w8 (Fr.refl _ _)).cell 1 (mem_all18 (by omega) (by omega))
  have lg1 := Nat.lt_of_lt_of_le ((G.out w8 (Fr.refl _ _)).glob 1 (mem_all18 (by omega) (by omega))) (G.out w8 (Fr.refl _ _)).le
  have e1 : gOf 1 = 0 := rfl
  rw [e1] at g1 lg1
  have hSok := fun W (hf : Fr [] w8 W) => H2.out.2.1.fr (H7.out.1.trans hf) (by simp) (Nat.le_refl _)
  have hBsz := fun W (hf : Fr [] w8 W) => (H7.out.1.trans hf).size
  have s0 := (H2.out.2.2.1.fr0 H7.out.1).at_ 0 (v := .slice (some ⟨b, 0, none⟩) 2 2) rfl
  have s1 := (H2.out.2.2.1.fr0 H7.out.1).at_ 1 (v := .slice none 0 0) rfl
  have ls := (H2.out.2.2.1.fr0 H7.out.1).lt
  have HSS := hide (And.intro hSok hBsz)
  have k1 : kindN (sa0 b).cs true (sa0 b).n1 = 1 := by kernel_rfl
  have k2 : kindN (sa0 b).cs false (sa0 b).n1 = 2 := by kernel_rfl
  have HI := hide (is_ev (G.out w8 (Fr.refl _ _)) (j := 1) (mem_all18 (by omega) (by omega)) H7.out.2.2.ev (by simp))
  rw [decide_eq_true (by simp [nums])] at HI
  have HK := hide (And.intro k1 k2)
  clear hr8 e1 hSok hBsz k1 k2 p0 p1 lp
  go_wp2_with fail
  refine HI.out.mono ?_
  rintro e w9 ⟨rfl, hf⟩
  have H9 := hide hf
  have s0' := (hf.cell (p := ⟨b + 1, 0, none⟩) ls (by simp)).trans s0
  have s1' := (hf.cell (p := ⟨b + 1, 1, none⟩) ls (by simp)).trans s1
  have ls' := Nat.lt_of_lt_of_le ls hf.size
  clear hf HI g1 lg1 m0 m1 m2 m3 n0 n1 n2 n3 n4 n5 s0 s1
  go_wp2_with fail
  refine (roll_calls (s := sa0 b) (HSS.out.1 _ H9.out) (HSS.out.2 _ H9.out)).mono ?_
  rintro e w10 ⟨rfl, hf⟩
  rw [HK.out.1]
  have H10 := hide (H9.out.trans hf)
  have t0 := (hf.cell (p := ⟨b + 1, 0, none⟩) ls' (by simp)).trans s0'
  have t1 := (hf.cell (p := ⟨b + 1, 1, none⟩) ls' (by simp)).trans s1'
  have lt' := Nat.lt_of_lt_of_le ls' hf.size
  clear hf s0' s1' ls' ls
  go_wp2_with fail
  refine (shown_calls (s := sa0 b) (HSS.out.1 _ H10.out) (HSS.out.2 _ H10.out)).mono ?_
  rintro e w11 ⟨rfl, hf⟩
  rw [HK.out.2]
  have H11 := hide (H10.out.trans hf)
  clear hf t0 t1 lt'
  go_wp2_with fail
  have hbl := Blk.new w11 3 #[.int .i64 0, .int .i64 3]
  have H12 := hide (H11.out.alloc (.cells #[.int .i64 0, .int .i64 3] 3))
  refine (setOf_calls (xs := [0, 3]) ⟨rfl, fun _ => ⟨_, 0, rfl, hbl.lt, fun j u hu => by rw [Nat.zero_add]; exact hbl.at_ j (by rw [← hu]; simp [encN])⟩⟩ rfl (by simp)).mono ?_
  rintro e w12 ⟨rfl, rfl⟩
  have h9 : setN [0, 3] = 9 := by kernel_rfl
  rw [h9]
  clear h9 hbl
  go_wp2_with fail
  refine (check_calls (s := saE) (G.out _ H12.out) (saE_ok _ _)).mono ?_
  rintro e w13 ⟨v13, rfl, hv, hf⟩
  rw [saE_fl] at hv
  obtain ⟨rfl, -⟩ := hv.form.resolve_right (fun h => h.1 rfl)
  have H13 := hide (H12.out.trans hf)
  clear hv hf
  go_wp2_with fail
  go_ret
  exact ⟨rfl, (H2.out.2.2.2.trans H7.out.1).trans H13.out⟩
end Go.Proofs.YtiadeafibfkmeaaDoor

/- operand of package code by contract. -/
import Derived.Test.YthjakngpegdhmaaDoorLook2
namespace Go.Proofs.YthjakngpegdhmaaDoor
open Go.RowKit Go.Deep
attribute [local go_sem ↓] Go.wp_at_zero Go.wp_at_succ

def opndB (cs : List (Int × Bool)) (nr n : Nat) (x : Ins) : Bool :=
  if x.op = 20 ∨ x.op = 21 then decide (0 ≤ x.a ∧ x.a ≤ n)
  else if x.op = 22 ∨ x.op = 24 then compB cs x.a true
  else if x.op = 23 ∨ x.op = 33 ∨ x.op = 34 then compB cs x.a false
  else if x.op = 25 then decide (0 ≤ x.a ∧ x.a < 2)
  else if x.op = 26 ∨ x.op = 27 then decide (0 ≤ x.a ∧ x.a < nr)
  else if x.op = 31 then setB cs.length x.a
  else if x.op = 1 then true
  else x.a == 0
def OpPost (w : World) (ad : Nat → Addr) (ok : Bool) (e : Ending) (w' : World) : Prop := ∃ k, e = .returned (if ok then .nilIface else sv (ad k)) ∧ Fr [] w w'
set_option maxRecDepth 100000 in
set_option maxHeartbeats 8000000 in
theorem operand_calls {K : List Nat} {B' : Nat} {ad : Nat → Addr} {H : Nat} {w : World} {g : Nat} {A1 : Option Addr} {c1 nr : Nat} {s0 s3 : Value} {n : Nat} {cs : List (Int × Bool)} (hs : Sents K B' w ad) (hK1 : 1 ∈ K) (hK13 : 13 ∈ K) (hg : Blk w g 70 #[s0, .slice A1 nr c1, .int .i64 n, s3]) (hc : SchR H w s0 cs) (hH : H ≤ w.heap.size) (hl : cs.length ≤ 1000000) (hnr : nr ≤ 1000000) (x : Ins) :
    Calls Tryd.prog 30 #[.pointer (some ⟨g, 0, none⟩), .agg #[.int .i64 x.op, .int .i64 x.a, .int .i64 x.b]] w (OpPost w ad (opndB cs nr n x)) := by
  obtain ⟨op, ia, ib⟩ := x
  simp only
  have hH0 := hH
  go_enter Tryd.func30, Tryd.ntmps30
  go_upto_region 1 with (fail)
  have hf1 : Fr [] w (w.alloc (.cells #[.int .i64 op, .int .i64 ia, .int .i64 ib] 50)) := (Fr.refl _ _).alloc _
  have hbb := Blk.new w 50 #[.int .i64 op, .int .i64 ia, .int .i64 ib]
  have hg1 := hg.fr0 hf1
  have hc1 := hc.fr hf1 (by simp) hH
  have hs1 := hs.fr0 hf1
  have e1 : (w.alloc (.cells #[.int .i64 op, .int .i64 ia, .int .i64 ib] 50)).cell? ⟨4, 0, none⟩ = some (sv (ad 1)) := hs1.cell 1 hK1
  have e13 : (w.alloc (.cells #[.int .i64 op, .int .i64 ia, .int .i64 ib] 50)).cell? ⟨5, 0, none⟩ = some (sv (ad 13)) := hs1.cell 13 hK13
  have l1 : 4 < (w.alloc (.cells #[.int .i64 op, .int .i64 ia, .int .i64 ib] 50)).heap.size := Nat.lt_of_lt_of_le (hs1.glob 1 hK1) hs1.le
  have l13 : 5 < (w.alloc (.cells #[.int .i64 op, .int .i64 ia, .int .i64 ib] 50)).heap.size := Nat.lt_of_lt_of_le (hs1.glob 13 hK13) hs1.le
  have hH1 : H ≤ (w.alloc (.cells #[.int .i64 op, .int .i64 ia, .int .i64 ib] 50)).heap.size := Nat.le_trans hH hf1.size
  clear hg hc hs
  generalize w.heap.size = hw at *
  generalize World.alloc w _ = w1 at *
  have b0 := hbb.at_ 0 (v := .int .i64 op) rfl
  have b1 := hbb.at_ 1 (v := .int .i64 ia) rfl
  have lb := hbb.lt
  have lg := hg1.lt
  have g1 := hg1.at_ 1 (v := .slice A1 nr c1) rfl
  have g2 := hg1.at_ 2 (v := .int .i64 n) rfl
  have HP := hide (fun W => isPlace_calls (w := W) ia n)
  have HC := hide (fun r => comp_calls hg1 hc1 hH1 hl ia r)
  have HS := hide (set_calls hg1 hc1 hl ia)
  have Hf := hide hf1
  clear hbb hg1 hc1 hs1 hf1 hH1 hH0 hH hK1 hK13
  by_cases h20 : op = 20
  · subst h20
    by_cases hp : 0 ≤ ia ∧ ia ≤ (n : Int)
    · have Hp := hide hp
      have hd : decide (0 ≤ ia ∧ ia ≤ (n : Int)) = true := decide_eq_true hp
      rw [hd] at HP
      clear hp hd
      go_wp2_with fail
      go_region_held3 (fun w' => w'.cell? ⟨hw, 1, none⟩ = some (.int .i64 ia) ∧ w'.cell? ⟨g, 2, none⟩ = some (.int .i64 n)) (go_keep) (first | (go_at_call 24; ((with_reducible refine (HP.out _).mono ?_)); rintro e w' ⟨rfl, rfl⟩))
      all_goals
        go_wp2_with fail
        go_ret
        exact ⟨0, ret_eq (by simp [opndB, Hp.out]), Hf.out.drew⟩
    · have Hp := hide hp
      have hd : decide (0 ≤ ia ∧ ia ≤ (n : Int)) = false := decide_eq_false hp
      rw [hd] at HP
      clear hp hd
      go_wp2_with fail
      go_region_held3 (fun w' => w'.cell? ⟨hw, 1, none⟩ = some (.int .i64 ia) ∧ w'.cell? ⟨g, 2, none⟩ = some (.int .i64 n)) (go_keep) (first | (go_at_call 24; ((with_reducible refine (HP.out _).mono ?_)); rintro e w' ⟨rfl, rfl⟩))
      all_goals
        go_wp2_with fail
        go_ret
        exact ⟨13, ret_eq (by simp [opndB, Hp.out]), Hf.out.drew⟩
  by_cases h21 : op = 21
  · subst h21
    by_cases hp : 0 ≤ ia ∧ ia ≤ (n : Int)
    · have Hp := hide hp
      have hd : decide (0 ≤ ia ∧ ia ≤ (n : Int)) = true := decide_eq_true hp
      rw [hd] at HP
      clear hp hd
      go_wp2_with fail
      go_region_held3 (fun w' => w'.cell? ⟨hw, 1, none⟩ = some (.int .i64 ia) ∧ w'.cell? ⟨g, 2, none⟩ = some (.int .i64 n)) (go_keep) (first | (go_at_call 24; ((with_reducible refine (HP.out _).mono ?_)); rintro e w' ⟨rfl, rfl⟩))
      all_goals
        go_wp2_with fail
        go_ret
        exact ⟨0, ret_eq (by simp [opndB, Hp.out]), Hf.out.drew⟩
    · have Hp := hide hp
      have hd : decide (0 ≤ ia ∧ ia ≤ (n : Int)) = false := decide_eq_false hp
      rw [hd] at HP
      clear hp hd
      go_wp2_with fail
      go_region_held3 (fun w' => w'.cell? ⟨hw, 1, none⟩ = some (.int .i64 ia) ∧ w'.cell? ⟨g, 2, none⟩ = some (.int .i64 n)) (go_keep) (first | (go_at_call 24; ((with_reducible refine (HP.out _).mono ?_)); rintro e w' ⟨rfl, rfl⟩))
      all_goals
        go_wp2_with fail
        go_ret
        exact ⟨13, ret_eq (by simp [opndB, Hp.out]), Hf.out.drew⟩
  by_cases h22 : op = 22
  · subst h22
    have HC1 := hide (HC.out true)
    cases hb : compB cs ia true
    · rw [hb] at HC1
      have Hb := hide hb
      clear hb
      go_wp2_with fail
      refine HC1.out.mono ?_
      rintro e w2 ⟨rfl, rfl⟩
      go_wp2_with fail
      go_ret
      exact ⟨1, ret_eq (by simp [opndB, Hb.out]), Hf.out⟩
    · rw [hb] at HC1
      have Hb := hide hb
      clear hb
      go_wp2_with fail
      refine HC1.out.mono ?_
      rintro e w2 ⟨rfl, rfl⟩
      go_wp2_with fail
      go_ret
      exact ⟨1, ret_eq (by simp [opndB, Hb.out]), Hf.out⟩
  by_cases h24 : op = 24
  · subst h24
    have HC1 := hide (HC.out true)
    cases hb : compB cs ia true
    · rw [hb] at HC1
      have Hb := hide hb
      clear hb
      go_wp2_with fail
      refine HC1.out.mono ?_
      rintro e w2 ⟨rfl, rfl⟩
      go_wp2_with fail
      go_ret
      exact ⟨1, ret_eq (by simp [opndB, Hb.out]), Hf.out⟩
    · rw [hb] at HC1
      have Hb := hide hb
      clear hb
      go_wp2_with fail
      refine HC1.out.mono ?_
      rintro e w2 ⟨rfl, rfl⟩
      go_wp2_with fail
      go_ret
      exact ⟨1, ret_eq (by simp [opndB, Hb.out]), Hf.out⟩
  by_cases h23 : op = 23
  · subst h23
    have HC1 := hide (HC.out false)
    cases hb : compB cs ia false
    · rw [hb] at HC1
      have Hb := hide hb
      clear hb
      go_wp2_with fail
      refine HC1.out.mono ?_
      rintro e w2 ⟨rfl, rfl⟩
      go_wp2_with fail
      go_ret
      exact ⟨1, ret_eq (by simp [opndB, Hb.out]), Hf.out⟩
    · rw [hb] at HC1
      have Hb := hide hb
      clear hb
      go_wp2_with fail
      refine HC1.out.mono ?_
      rintro e w2 ⟨rfl, rfl⟩
      go_wp2_with fail
      go_ret
      exact ⟨1, ret_eq (by simp [opndB, Hb.out]), Hf.out⟩
  by_cases h33 : op = 33
  · subst h33
    have HC1 := hide (HC.out false)
    cases hb : compB cs ia false
    · rw [hb] at HC1
      have Hb := hide hb
      clear hb
      go_wp2_with fail
      refine HC1.out.mono ?_
      rintro e w2 ⟨rfl, rfl⟩
      go_wp2_with fail
      go_ret
      exact ⟨1, ret_eq (by simp [opndB, Hb.out]), Hf.out⟩
    · rw [hb] at HC1
      have Hb := hide hb
      clear hb
      go_wp2_with fail
      refine HC1.out.mono ?_
      rintro e w2 ⟨rfl, rfl⟩
      go_wp2_with fail
      go_ret
      exact ⟨1, ret_eq (by simp [opndB, Hb.out]), Hf.out⟩
  by_cases h34 : op = 34
  · subst h34
    have HC1 := hide (HC.out false)
    cases hb : compB cs ia false
    · rw [hb] at HC1
      have Hb := hide hb
      clear hb
      go_wp2_with fail
      refine HC1.out.mono ?_
      rintro e w2 ⟨rfl, rfl⟩
      go_wp2_with fail
      go_ret
      exact ⟨1, ret_eq (by simp [opndB, Hb.out]), Hf.out⟩
    · rw [hb] at HC1
      have Hb := hide hb
      clear hb
      go_wp2_with fail
      refine HC1.out.mono ?_
      rintro e w2 ⟨rfl, rfl⟩
      go_wp2_with fail
      go_ret
      exact ⟨1, ret_eq (by simp [opndB, Hb.out]), Hf.out⟩
  by_cases h25 : op = 25
  · subst h25
    by_cases h0 : 0 ≤ ia
    · by_cases h2 : ia < 2
      · have Hb := hide (And.intro h0 h2)
        go_wp2_with fail
        go_ret
        exact ⟨1, ret_eq (by simp [opndB, Hb.out]), Hf.out⟩
      · have Hb := hide h2
        go_wp2_with fail
        go_ret
        exact ⟨1, ret_eq (by have hb := Hb.out; simp [opndB]; try omega), Hf.out⟩
    · have Hb := hide h0
      go_wp2_with fail
      go_ret
      exact ⟨1, ret_eq (by have hb := Hb.out; simp [opndB]; try omega), Hf.out⟩
  by_cases h26 : op = 26
  · subst h26
    by_cases h0 : 0 ≤ ia
    · by_cases h2 : ia < (nr : Int)
      · have Hb := hide (And.intro h0 h2)
        go_wp2_with fail
        go_region_held3 (fun w' => w'.cell? ⟨hw, 1, none⟩ = some (.int .i64 ia) ∧ w'.cell? ⟨g, 1, none⟩ = some (.slice A1 nr c1)) (go_keep) (fail)
        all_goals
          go_wp2_with fail
          go_ret
          exact ⟨1, ret_eq (by simp [opndB, Hb.out]), Hf.out.drew⟩
      · have Hb := hide h2
        go_wp2_with fail
        go_region_held3 (fun w' => w'.cell? ⟨hw, 1, none⟩ = some (.int .i64 ia) ∧ w'.cell? ⟨g, 1, none⟩ = some (.slice A1 nr c1)) (go_keep) (fail)
        all_goals
          have hd3 : decide (ia < (nr : Int)) = false := decide_eq_false (by omega)
          simp only [hd3]
          go_wp2_with fail
          go_ret
          exact ⟨1, ret_eq (by have hb := Hb.out; simp [opndB]; try omega), Hf.out.drew⟩
    · have Hb := hide h0
      have hd : decide (0 ≤ ia) = false := decide_eq_false h0
      have hd2 : ¬ 0 ≤ ia := h0
      go_wp2_with fail
      go_quiet (fail)
      go_wp2_with fail
      go_ret
      exact ⟨1, ret_eq (by have hb := Hb.out; simp [opndB]; try omega), Hf.out.drewN _⟩
  by_cases h27 : op = 27
  · subst h27
    by_cases h0 : 0 ≤ ia
    · by_cases h2 : ia < (nr : Int)
      · have Hb := hide (And.intro h0 h2)
        go_wp2_with fail
        go_region_held3 (fun w' => w'.cell? ⟨hw, 1, none⟩ = some (.int .i64 ia) ∧ w'.cell? ⟨g, 1, none⟩ = some (.slice A1 nr c1)) (go_keep) (fail)
        all_goals
          go_wp2_with fail
          go_ret
          exact ⟨1, ret_eq (by simp [opndB, Hb.out]), Hf.out.drew⟩
      · have Hb := hide h2
        go_wp2_with fail
        go_region_held3 (fun w' => w'.cell? ⟨hw, 1, none⟩ = some (.int .i64 ia) ∧ w'.cell? ⟨g, 1, none⟩ = some (.slice A1 nr c1)) (go_keep) (fail)
        all_goals
          have hd3 : decide (ia < (nr : Int)) = false := decide_eq_false (by omega)
          simp only [hd3]
          go_wp2_with fail
          go_ret
          exact ⟨1, ret_eq (by have hb := Hb.out; simp [opndB]; try omega), Hf.out.drew⟩
    · have Hb := hide h0
      have hd : decide (0 ≤ ia) = false := decide_eq_false h0
      have hd2 : ¬ 0 ≤ ia := h0
      go_wp2_with fail
      go_quiet (fail)
      go_wp2_with fail
      go_ret
      exact ⟨1, ret_eq (by have hb := Hb.out; simp [opndB]; try omega), Hf.out.drewN _⟩
  by_cases h31 : op = 31
  · subst h31
    cases hb : setB cs.length ia
    · rw [hb] at HS
      have Hb := hide hb
      clear hb
      go_wp2_with fail
      refine HS.out.mono ?_
      rintro e w2 ⟨rfl, rfl⟩
      go_wp2_with fail
      go_ret
      exact ⟨1, ret_eq (by simp [opndB, Hb.out]), Hf.out⟩
    · rw [hb] at HS
      have Hb := hide hb
      clear hb
      go_wp2_with fail
      refine HS.out.mono ?_
      rintro e w2 ⟨rfl, rfl⟩
      go_wp2_with fail
      go_ret
      exact ⟨1, ret_eq (by simp [opndB, Hb.out]), Hf.out⟩
  by_cases h1 : op = 1
  · subst h1
    go_wp2_with fail
    go_ret
    exact ⟨1, ret_eq (by simp [opndB]), Hf.out⟩
  have HX := hide (show opndB cs nr n ⟨op, ia, ib⟩ = (ia == 0) from by simp [opndB, h20, h21, h22, h24, h23, h33, h34, h25, h26, h27, h31, h1])
  have k20 : (op == 20) = false := by simp [h20]
  have k21 : (op == 21) = false := by simp [h21]
  have k22 : (op == 22) = false := by simp [h22]
  have k24 : (op == 24) = false := by simp [h24]
  have k23 : (op == 23) = false := by simp [h23]
  have k33 : (op == 33) = false := by simp [h33]
  have k34 : (op == 34) = false := by simp [h34]
  have k25 : (op == 25) = false := by simp [h25]
  have k26 : (op == 26) = false := by simp [h26]
  have k27 : (op == 27) = false := by simp [h27]
  have k31 : (op == 31) = false := by simp [h31]
  have k1 : (op == 1) = false := by simp [h1]
  clear h20 h21 h22 h24 h23 h33 h34 h25 h26 h27 h31 h1
  by_cases h0 : ia = 0
  · subst h0
    go_wp2_with fail
    go_ret
    exact ⟨1, ret_eq (by simp [HX.out]), Hf.out⟩
  · have Hb := hide h0
    have h0b : (ia == 0) = false := by simp [h0]
    clear h0
    go_wp2_with fail
    go_ret
    exact ⟨1, ret_eq (by simp [HX.out, Hb.out]), Hf.out⟩
end Go.Proofs.YthjakngpegdhmaaDoor

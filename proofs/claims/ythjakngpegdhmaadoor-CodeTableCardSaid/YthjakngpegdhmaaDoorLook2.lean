/- component, set, isCell of package code by contracts. -/
import Derived.Test.YthjakngpegdhmaaDoorLook
import Derived.Deep.RegionHeld3
namespace Go.Proofs.YthjakngpegdhmaaDoor
open Go.RowKit

/-- the components' widths, and whether they are rolled back, as a slice reads -/
def SchR (H : Nat) (w : World) (s0 : Value) (cs : List (Int × Bool)) : Prop :=
  ∃ A c, s0 = .slice A cs.length c ∧ ∀ k wd rb, cs[k]? = some (wd, rb) → ∃ b o, A = some ⟨b, o, none⟩ ∧ b < H ∧ w.cell? ⟨b, o + k * 7 + 1, none⟩ = some (.int .i64 wd) ∧ w.cell? ⟨b, o + k * 7 + 2, none⟩ = some (.bool rb)
theorem SchR.fr {H : Nat} {w w' : World} {s0 : Value} {cs : List (Int × Bool)} {S : List Nat} (h : SchR H w s0 cs) (hf : Fr S w w') (hS : ∀ b ∈ S, H ≤ b) (hH : H ≤ w.heap.size) : SchR H w' s0 cs := by
  obtain ⟨A, c, rfl, h⟩ := h
  refine ⟨A, c, rfl, fun k wd rb hk => ?_⟩
  obtain ⟨b, o, e, hb, h1, h2⟩ := h k wd rb hk
  have hn : b ∉ S := fun hm => by have := hS b hm; omega
  exact ⟨b, o, e, hb, (hf.cell (p := ⟨b, o + k * 7 + 1, none⟩) (Nat.lt_of_lt_of_le hb hH) hn).trans h1, (hf.cell (p := ⟨b, o + k * 7 + 2, none⟩) (Nat.lt_of_lt_of_le hb hH) hn).trans h2⟩
def compB (cs : List (Int × Bool)) (n : Int) (rolled : Bool) : Bool := decide (0 ≤ n) && (match cs[n.toNat]? with | some x => !rolled || x.2 | none => false)
set_option maxRecDepth 100000 in
set_option maxHeartbeats 1000000 in
theorem comp_calls {H : Nat} {w : World} {g : Nat} {s0 s1 s2 s3 : Value} {cs : List (Int × Bool)} (hg : Blk w g 70 #[s0, s1, s2, s3]) (hs : SchR H w s0 cs) (hH : H ≤ w.heap.size) (hl : cs.length ≤ 1000000) (n : Int) (rolled : Bool) :
    Calls Tryd.prog 34 #[.pointer (some ⟨g, 0, none⟩), .int .i64 n, .bool rolled] w fun e w' => e = .returned (.bool (compB cs n rolled)) ∧ w = w' := by
  obtain ⟨A, c, rfl, hc⟩ := hs
  have g0 := hg.at_ 0 (v := .slice A cs.length c) rfl
  have lg := hg.lt
  clear hg
  by_cases h0 : 0 ≤ n
  · obtain ⟨k, rfl⟩ := Int.eq_ofNat_of_zero_le h0
    by_cases h1 : k < cs.length
    · obtain ⟨wd, rb, hk⟩ : ∃ wd rb, cs[k]? = some (wd, rb) := ⟨_, _, List.getElem?_eq_getElem h1⟩
      obtain ⟨b, o, rfl, hb, c1, c2⟩ := hc k wd rb hk
      have e : compB cs (k : Int) rolled = (!rolled || rb) := by simp [compB, hk]
      rw [e]
      have i1 : (k : Int) < (cs.length : Int) := by omega
      have lb : b < w.heap.size := Nat.lt_of_lt_of_le hb hH
      clear hc e hk
      cases rolled
      · go_enter Tryd.func34, Tryd.ntmps34
        go_wp2_with fail
        go_ret
        exact ⟨by simp, rfl⟩
      · go_enter Tryd.func34, Tryd.ntmps34
        go_wp2_with fail
        go_ret
        exact ⟨by simp, rfl⟩
    · have e : compB cs (k : Int) rolled = false := by
        have hx : cs[k]? = none := List.getElem?_eq_none (by omega)
        simp [compB, hx]
      rw [e]
      have i1 : ¬ (k : Int) < (cs.length : Int) := by omega
      clear hc e
      go_enter Tryd.func34, Tryd.ntmps34
      go_wp2_with fail
      go_ret
      exact ⟨by simp, rfl⟩
  · have e : compB cs n rolled = false := by simp [compB, h0]
    rw [e]
    clear hc e
    go_enter Tryd.func34, Tryd.ntmps34
    go_wp2_with fail
    go_ret
    exact ⟨by simp, rfl⟩
def setB (m : Nat) (n : Int) : Bool := decide (0 ≤ n) && (n / 2 ^ (min (m : Int) 32).toNat == 0)
set_option maxRecDepth 100000 in
theorem set_calls {H : Nat} {w : World} {g : Nat} {s0 s1 s2 s3 : Value} {cs : List (Int × Bool)} (hg : Blk w g 70 #[s0, s1, s2, s3]) (hs : SchR H w s0 cs) (hl : cs.length ≤ 1000000) (n : Int) :
    Calls Tryd.prog 35 #[.pointer (some ⟨g, 0, none⟩), .int .i64 n] w fun e w' => e = .returned (.bool (setB cs.length n)) ∧ w = w' := by
  obtain ⟨A, c, rfl, hc⟩ := hs
  have g0 := hg.at_ 0 (v := .slice A cs.length c) rfl
  have lg := hg.lt
  clear hg hc
  by_cases h0 : 0 ≤ n
  · have e : setB cs.length n = (n / 2 ^ (min (cs.length : Int) 32).toNat == 0) := by simp [setB, h0]
    rw [e]
    clear e
    go_enter Tryd.func35, Tryd.ntmps35
    go_wp2_with fail
    go_ret
    exact ⟨rfl, rfl⟩
  · have e : setB cs.length n = false := by simp [setB, h0]
    rw [e]
    clear e
    go_enter Tryd.func35, Tryd.ntmps35
    go_wp2_with fail
    go_ret
    exact ⟨by simp, rfl⟩
def cellB (cs : List (Int × Bool)) (x : Ins) : Bool := if (rowOf x.op).a < 2 then x.b == 0 else decide (0 ≤ x.b) && (match cs[x.a.toNat]? with | some y => decide (x.b < y.1) | none => false)
set_option maxRecDepth 100000 in
set_option maxHeartbeats 2000000 in
theorem isCell_calls {H : Nat} {w : World} {g : Nat} {s0 s1 s2 s3 : Value} {cs : List (Int × Bool)} (hg : Blk w g 70 #[s0, s1, s2, s3]) (hs : SchR H w s0 cs) (hH : H ≤ w.heap.size) (hl : cs.length ≤ 1000000) (hT : RowsT w) (x : Ins) (ha : ¬ (rowOf x.op).a < 2 → 0 ≤ x.a ∧ x.a < cs.length) :
    Calls Tryd.prog 31 #[.pointer (some ⟨g, 0, none⟩), .agg #[.int .i64 x.op, .int .i64 x.a, .int .i64 x.b]] w fun e w' => e = .returned (.bool (cellB cs x)) ∧ Fr [] w w' := by
  obtain ⟨op, ia, ib⟩ := x
  simp only at ha
  have HA := hide (args_calls (w := w.alloc (.cells #[.int .i64 op, .int .i64 ia, .int .i64 ib] 50)) (hT.fr0 ((Fr.refl [] w).alloc _)) op)
  by_cases h2 : (rowOf op).a < 2
  · have e : cellB cs ⟨op, ia, ib⟩ = (ib == 0) := if_pos h2
    rw [e]
    clear hg hs hT e ha
    generalize (rowOf op).a = ra at *
    go_enter Tryd.func31, Tryd.ntmps31
    go_wp2_with fail
    refine HA.out.mono ?_
    rintro e w2 ⟨rfl, hf⟩
    have hb := (Blk.new w 50 #[.int .i64 op, .int .i64 ia, .int .i64 ib]).fr0 hf
    have b2 := hb.at_ 2 (v := .int .i64 ib) rfl
    have lb := hb.lt
    have Hf := hide (((Fr.refl [] w).alloc _).trans hf)
    clear hb hf
    go_wp2_with fail
    go_ret
    exact ⟨rfl, Hf.out⟩
  · obtain ⟨k, rfl⟩ := Int.eq_ofNat_of_zero_le (ha h2).1
    have hk1 := (ha h2).2
    obtain ⟨wd, rb, hk⟩ : ∃ wd rb, cs[k]? = some (wd, rb) := ⟨_, _, List.getElem?_eq_getElem (by omega)⟩
    have e : cellB cs ⟨op, (k : Int), ib⟩ = (decide (0 ≤ ib) && decide (ib < wd)) := by simp [cellB, h2, hk]
    rw [e]
    obtain ⟨A, c, rfl, hc⟩ := hs
    obtain ⟨b, o, rfl, hb, c1, -⟩ := hc k wd rb hk
    have H1 := hide (And.intro hg c1)
    have lg := hg.lt
    have lb0 : b < w.heap.size := Nat.lt_of_lt_of_le hb hH
    have i0 : (0 : Int) ≤ (k : Int) := by omega
    have i1 : (k : Int) < (cs.length : Int) := hk1
    clear hg hT e ha hc hk c1
    generalize (rowOf op).a = ra at *
    go_enter Tryd.func31, Tryd.ntmps31
    go_wp2_with fail
    refine HA.out.mono ?_
    rintro e w2 ⟨rfl, hf⟩
    have hf2 := ((Fr.refl [] w).alloc (.cells #[.int .i64 op, .int .i64 (k : Int), .int .i64 ib] 50)).trans hf
    have hbb := (Blk.new w 50 #[.int .i64 op, .int .i64 (k : Int), .int .i64 ib]).fr0 hf
    have d1 := hbb.at_ 1 (v := .int .i64 (k : Int)) rfl
    have d2 := hbb.at_ 2 (v := .int .i64 ib) rfl
    have lb := hbb.lt
    have g0 := (H1.out.1.fr0 hf2).at_ 0 (v := .slice (some ⟨b, o, none⟩) cs.length c) rfl
    have c1 := (hf2.cell (p := ⟨b, o + k * 7 + 1, none⟩) lb0 (by simp)).trans H1.out.2
    have lg2 : g < w2.heap.size := Nat.lt_of_lt_of_le lg hf2.size
    have lb2 : b < w2.heap.size := Nat.lt_of_lt_of_le lb0 hf2.size
    have Hf := hide hf2
    clear hbb hf hf2
    generalize w.heap.size = hw at *
    by_cases hib : 0 ≤ ib
    · go_wp2_with fail
      go_region_held3 (fun w' => w'.cell? ⟨hw, 1, none⟩ = some (.int .i64 (k : Int)) ∧ w'.cell? ⟨hw, 2, none⟩ = some (.int .i64 ib) ∧ w'.cell? ⟨g, 0, none⟩ = some (.slice (some ⟨b, o, none⟩) cs.length c) ∧ w'.cell? ⟨b, o + k * 7 + 1, none⟩ = some (.int .i64 wd)) (go_keep) (fail)
      all_goals
        go_wp2_with fail
        go_ret
        exact ⟨ret_eq (by simp [hib]), Hf.out.drew⟩
    · go_wp2_with fail
      have hd : decide (0 ≤ ib) = false := decide_eq_false (by omega)
      have hd2 : ¬ 0 ≤ ib := by omega
      go_quiet (fail)
      all_goals
        go_wp2_with fail
        go_ret
        exact ⟨ret_eq (by simp [hd2]), Hf.out.drewN _⟩
end Go.Proofs.YthjakngpegdhmaaDoor

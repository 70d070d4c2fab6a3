/- BlameDeeper: the walk of the law. -/
import Derived.Test.YtmjdnmpiheaidaaDoorSmall
namespace Go.Proofs.YtmjdnmpiheaidaaDoor
open Go.RowKit
theorem joinB_one (s : ByteArray) : joinB [s] = s := by
  unfold joinB
  rw [List.map_cons, List.map_nil, Lib.join_one]
theorem joinB_cons (s : ByteArray) (ws : List ByteArray) (h : ws ≠ []) : joinB (s :: ws) = s ++ (⟨#[47]⟩ ++ joinB ws) := by
  obtain ⟨x, r, rfl⟩ := List.exists_cons_of_ne_nil h
  apply ByteArray.ext
  apply Array.toList_inj.1
  unfold joinB
  rw [List.map_cons, List.map_cons, Lib.join_cons, Lib.join_cons]
  simp [Lib.joinTail, ByteArray.data_append]
theorem joinB_size (ws : List ByteArray) : (joinB ws).size = plen ws := by
  unfold joinB plen
  exact List.size_toArray
structure Cutd (s js y : ByteArray) : Prop where
  le : (s.size : Int) ≤ (y.size : Int)
  pre : y.extract 0 s.size = s
  suf : y.extract s.size y.size = ⟨#[47]⟩ ++ js
  nlt : decide (y.size < s.size) = false
  lt : decide (s.size < y.size) = true
theorem cutd (s js : ByteArray) : Cutd s js (s ++ (⟨#[47]⟩ ++ js)) := by
  have h1 : (s ++ ((⟨#[47]⟩ : ByteArray) ++ js)).size = s.size + (1 + js.size) := by
    rw [ByteArray.size_append, ByteArray.size_append]; rfl
  have h2 : ((⟨#[47]⟩ : ByteArray) ++ js).size = 1 + js.size := by rw [ByteArray.size_append]; rfl
  refine ⟨by omega, ByteArray.extract_append_eq_left rfl, ?_, decide_eq_false (by omega), decide_eq_true (by omega)⟩
  exact ByteArray.extract_append_eq_right rfl (by rw [h1, h2])
set_option maxRecDepth 100000 in
set_option maxHeartbeats 8000000 in
set_option pp.maxSteps 200000 in
set_option pp.deepTerms true in
theorem deeper_walk {w : World} {ad : Nat → Addr} (hs : Sents All18 w.heap.size w ad) (s : ByteArray) (A : Option Addr) (n c : Nat) (l : List Rw) (hl : l.length = n) (hn : n ≤ maxLen) (hok : ∀ x ∈ l, okR w w.heap.size x) (hr : Reads w w.heap.size 1 A n (l.flatMap encR)) :
    Calls Tryd.prog 6 #[.string s, .slice A n c] w fun e w' => e = .returned (.bool true) ∧ Below w.heap.size w w' := by
  have HA := hide (awake_calls hs)
  have H0 := hide hs
  have HR := hide (And.intro hr (And.intro hl (And.intro hn hok)))
  clear hs hr hl hn hok
  go_enter Tryd.func6, Tryd.ntmps6
  go_wp2_with fail
  refine HA.out.mono ?_
  rintro e w1 ⟨rfl, hf1⟩
  have H1 := hide hf1
  have HG := hide (great_calls (c := c) (HR.out.1.fr0 hf1) HR.out.2.1 HR.out.2.2.1 fun x hx => ⟨(HR.out.2.2.2 x hx).1, (HR.out.2.2.2 x hx).2.1, (HR.out.2.2.2 x hx).2.2.fr0 hf1⟩)
  clear hf1 HA
  go_wp2_with fail
  refine HG.out.mono ?_
  rintro e w' ⟨rfl, rfl | ⟨rfl, hn20, hsm⟩⟩
  · go_wp2_with fail
    go_ret
    exact ⟨rfl, H1.out.below (by simp) (Nat.le_refl _)⟩
  by_cases h100 : 100 < s.size
  · have h100' : (100 : Int) < (s.size : Int) := by omega
    go_wp2_with fail
    go_ret
    exact ⟨rfl, H1.out.below (by simp) (Nat.le_refl _)⟩
  have h100' : ¬ (100 : Int) < (s.size : Int) := by omega
  have hS : SmallR w l := fun x hx => ⟨HR.out.2.2.2 x hx, hsm x hx⟩
  have hB := small_bd hS [] (by simp) (by simp)
  have hB1 := small_bd hS [s] (by simp) (by simp; omega)
  have hcl : (allC l).length ≤ 20 := Nat.le_trans (allC_len l) (by have := HR.out.2.1; omega)
  have hBn : Hid (∀ W (_ : Fr [] w W) (k : Int), Calls Tryd.prog 10 #[.slice A n c, .int .i64 k] W fun e w' => ∃ v, e = .returned v ∧ EV w' ad v (allC l) ∧ Fr [] W w') := hide fun W hf k =>
    bunch_calls (H0.out.fr0 hf) (HR.out.1.fr0 hf) HR.out.2.1 hn20 (fun x hx => ⟨(hS x hx).1.1, (hS x hx).1.2.1, (hS x hx).1.2.2.fr0 hf⟩) (fun x hx => (hS x hx).2.1) k
  have hLv : Hid (∀ W v (_ : Fr [] w W) (_ : EV W ad v (allC l)), Calls Tryd.prog 15 #[v] W (WalkPost W ((allC l).map lf))) := hide fun W v hf hv => hv.leaves (H0.out.fr0 hf) (by omega) hB
  have hLw : Hid (∀ W x (_ : Fr [] w W) (_ : allC l = [] → x = .nilIface) (_ : allC l ≠ [] → WE W ad x s (allC l)), Calls Tryd.prog 15 #[x] W (WalkPost W ((allC l).map (leafOf [s])))) := hide fun W x hf h1 h2 => by
    rcases Classical.em (allC l = []) with h | h
    · rw [h1 h, h]
      exact leaves_of fun vw _ => walk_nil vw
    · exact (h2 h).leaves (H0.out.fr0 hf) (by omega) hB1
  have hB8 := hide hB
  clear hS hB hsm hB1
  generalize allC l = cs at *
  go_wp2_with fail
  refine (hBn.out _ H1.out 3).mono ?_
  rintro e w2 ⟨v2, rfl, hv, hf⟩
  have H2 := hide (And.intro hv (H1.out.trans hf))
  clear hv hf
  go_wp2_with fail
  refine (hLv.out _ _ H2.out.2 H2.out.1).mono ?_
  rintro e w3 ⟨x3, rfl, hr3, hf⟩
  rw [List.length_map] at hr3
  obtain ⟨A3, c3, rfl⟩ := leaf_row hr3
  have H3 := hide (And.intro hr3 (And.intro (H2.out.1.fr0 hf) (H2.out.2.trans hf)))
  clear hr3 hf H2 H1
  go_wp2_with fail
  refine (at_ev H3.out.2.1 s).mono ?_
  rintro e w4 ⟨x4, rfl, hn4, hw4, hf⟩
  have H4 := hide (And.intro hn4 (And.intro hw4 (And.intro hf (H3.out.2.2.trans hf))))
  clear hn4 hw4 hf
  go_wp2_with fail
  refine (hLw.out _ _ H4.out.2.2.2 H4.out.1 H4.out.2.1).mono ?_
  rintro e w5 ⟨x5, rfl, hr5, hf⟩
  rw [List.length_map] at hr5
  obtain ⟨A5, c5, rfl⟩ := leaf_row hr5
  have H5 := hide (And.intro (row_fr H3.out.1 (H4.out.2.2.1.trans hf) (by simp)) (And.intro hr5 (H4.out.2.2.2.trans hf)))
  clear hr5 hf H4 H3
  go_wp2_with fail
  go_loopw [8] (fun s8 wr => ∃ i : Nat, i ≤ cs.length ∧ s8 = .int .i64 i ∧ Fr [] w5 wr) (fun s8 _ => cs.length - (intOf s8).toNat)
  case atStart => exact ⟨0, by omega, rfl, Fr.refl _ _⟩
  case round =>
    obtain ⟨i, hi, rfl, hf⟩ := hrel
    have i0 : (0 : Int) ≤ (i : Int) := by omega
    by_cases hil : i < cs.length
    · have i1 : (i : Int) < (cs.length : Int) := by omega
      obtain ⟨x, hx⟩ : ∃ x, cs[i]? = some x := ⟨_, List.getElem?_eq_getElem hil⟩
      obtain ⟨g3, rfl, l3, p0, p1⟩ := leaf_cells (row_fr H5.out.1 hf (by simp)) (i := i) (x := lf x) (by rw [List.getElem?_map, hx]; rfl) hil
      obtain ⟨g5, rfl, l5, q0, q1⟩ := leaf_cells (row_fr H5.out.2.1 hf (by simp)) (i := i) (x := leafOf [s] x) (by rw [List.getElem?_map, hx]; rfl) hil
      have Hf := hide hf
      have Hx := hide hx
      clear hx hf
      obtain ⟨ws, k⟩ := x
      change wr.cell? ⟨g3, i * 2, none⟩ = some (.string (joinB ws)) at p0
      change wr.cell? ⟨g3, i * 2 + 1, none⟩ = some (.int .i64 k) at p1
      change wr.cell? ⟨g5, i * 2, none⟩ = some (.string (joinB (s :: ws))) at q0
      change wr.cell? ⟨g5, i * 2 + 1, none⟩ = some (.int .i64 k) at q1
      rcases Classical.em (ws = []) with rfl | hws
      · rw [joinB_one] at q0
        have d0 : ¬ (s.size : Int) < (s.size : Int) := by omega
        go_wp2_with fail
        go_quiet (fail)
        go_wp2_with fail
        go_roundw
        case rel => exact ⟨i + 1, by omega, by go_num, Hf.out.drewN _⟩
        case measure => simp [intOf]; omega
      · rw [joinB_cons s ws hws] at q0
        have hjs : ((joinB ws).size : Int) ≤ 8388608 := by
          have := (hB8.out _ (List.mem_of_getElem? Hx.out)).2
          rw [joinB_size]
          simp only [List.nil_append] at this
          omega
        obtain ⟨y1, y2, y3, y4, y5⟩ := cutd s (joinB ws)
        generalize s ++ ((⟨#[47]⟩ : ByteArray) ++ joinB ws) = y at *
        generalize joinB ws = js at *
        go_wp2_with fail
        go_quiet (fail)
        go_wp2_with fail
        go_roundw
        case rel => exact ⟨i + 1, by omega, by go_num, Hf.out.drewN _⟩
        case measure => simp [intOf]; omega
    · obtain rfl : i = cs.length := by omega
      have Hf := hide hf
      clear hf
      go_wp2_with fail
      go_ret
      exact ⟨rfl, (H5.out.2.2.trans Hf.out).below (by simp) (Nat.le_refl _)⟩
end Go.Proofs.YtmjdnmpiheaidaaDoor

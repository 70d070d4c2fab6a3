/- BlameParts: the walk of the law. -/
import Derived.Test.YtmjdnmpiheaidaaDoorSmall
namespace Go.Proofs.YtmjdnmpiheaidaaDoor
open Go.RowKit
set_option maxRecDepth 100000 in
set_option maxHeartbeats 8000000 in
theorem parts_walk {w : World} {ad : Nat → Addr} (hs : Sents All18 w.heap.size w ad) (A : Option Addr) (n c : Nat) (l : List Rw) (hl : l.length = n) (hn : n ≤ maxLen) (hok : ∀ x ∈ l, okR w w.heap.size x) (hr : Reads w w.heap.size 1 A n (l.flatMap encR)) (a b : Int) :
    Calls Tryd.prog 5 #[.slice A n c, .int .i64 a, .int .i64 b] w fun e w' => e = .returned (.bool true) ∧ Below w.heap.size w w' := by
  have HA := hide (awake_calls hs)
  have H0 := hide hs
  have HR := hide (And.intro hr (And.intro hl (And.intro hn hok)))
  clear hs hr hl hn hok
  go_enter Tryd.func5, Tryd.ntmps5
  go_wp2_with fail
  refine HA.out.mono ?_
  rintro e w1 ⟨rfl, hf1⟩
  have H1 := hide hf1
  have HG := hide (great_calls (c := c) (HR.out.1.fr0 hf1) HR.out.2.1 HR.out.2.2.1 fun x hx => ⟨(HR.out.2.2.2 x hx).1, (HR.out.2.2.2 x hx).2.1, (HR.out.2.2.2 x hx).2.2.fr0 hf1⟩)
  clear hf1 HA
  go_wp2_with fail
  refine HG.out.mono ?_
  rintro e w' ⟨rfl, rfl | ⟨rfl, hn20, hsm⟩⟩
  · go_wp2_with fail
    go_ret
    exact ⟨rfl, H1.out.below (by simp) (Nat.le_refl _)⟩
  have hS : SmallR w l := fun x hx => ⟨HR.out.2.2.2 x hx, hsm x hx⟩
  have hB := small_bd hS [] (by simp) (by simp)
  have hcl : (allC l).length ≤ 20 := Nat.le_trans (allC_len l) (by have := HR.out.2.1; omega)
  have hBn : Hid (∀ W (_ : Fr [] w W) (k : Int), Calls Tryd.prog 10 #[.slice A n c, .int .i64 k] W fun e w' => ∃ v, e = .returned v ∧ EV w' ad v (allC l) ∧ Fr [] W w') := hide fun W hf k =>
    bunch_calls (H0.out.fr0 hf) (HR.out.1.fr0 hf) HR.out.2.1 hn20 (fun x hx => ⟨(hS x hx).1.1, (hS x hx).1.2.1, (hS x hx).1.2.2.fr0 hf⟩) (fun x hx => (hS x hx).2.1) k
  have hLv : Hid (∀ W v (_ : Fr [] w W) (_ : EV W ad v (allC l)), Calls Tryd.prog 15 #[v] W (WalkPost W ((allC l).map lf))) := hide fun W v hf hv => hv.leaves (H0.out.fr0 hf) (by omega) hB
  clear hS hB hsm
  generalize hLS : (allC l).map lf = ls at *
  have hlen : ls.length = (allC l).length := by rw [← hLS, List.length_map]
  have hls : ls.length ≤ 20 := by omega
  clear hLS hlen hcl
  go_wp2_with fail
  refine (hBn.out _ H1.out a).mono ?_
  rintro e w2 ⟨v2, rfl, hv, hf⟩
  have H2 := hide (And.intro hv (H1.out.trans hf))
  clear hv hf
  go_wp2_with fail
  refine (hLv.out _ _ H2.out.2 H2.out.1).mono ?_
  rintro e w3 ⟨x3, rfl, hr3, hf⟩
  obtain ⟨A3, c3, rfl⟩ := leaf_row hr3
  have H3 := hide (And.intro hr3 (H2.out.2.trans hf))
  clear hr3 hf H2 H1
  go_wp2_with fail
  refine (hBn.out _ H3.out.2 b).mono ?_
  rintro e w4 ⟨v4, rfl, hv, hf⟩
  have H4 := hide (And.intro hv (And.intro hf (H3.out.2.trans hf)))
  clear hv hf
  go_wp2_with fail
  refine (hLv.out _ _ H4.out.2.2 H4.out.1).mono ?_
  rintro e w5 ⟨x5, rfl, hr5, hf⟩
  obtain ⟨A5, c5, rfl⟩ := leaf_row hr5
  have H5 := hide (And.intro (row_fr H3.out.1 (H4.out.2.1.trans hf) (by simp)) (And.intro hr5 (H4.out.2.2.trans hf)))
  clear hr5 hf H4 H3
  go_wp2_with fail
  go_loopw [9] (fun s9 wr => ∃ i : Nat, i ≤ ls.length ∧ s9 = .int .i64 i ∧ Fr [] w5 wr) (fun s9 _ => ls.length - (intOf s9).toNat)
  case atStart => exact ⟨0, by omega, rfl, Fr.refl _ _⟩
  case round =>
    obtain ⟨i, hi, rfl, hf⟩ := hrel
    have i0 : (0 : Int) ≤ (i : Int) := by omega
    by_cases hil : i < ls.length
    · have i1 : (i : Int) < (ls.length : Int) := by omega
      obtain ⟨x, hx⟩ : ∃ x, ls[i]? = some x := ⟨_, List.getElem?_eq_getElem hil⟩
      obtain ⟨g3, rfl, l3, p0, p1⟩ := leaf_cells (row_fr H5.out.1 hf (by simp)) hx hil
      obtain ⟨g5, rfl, l5, q0, q1⟩ := leaf_cells (row_fr H5.out.2.1 hf (by simp)) hx hil
      have hne := neq_leaf x
      have Hf := hide hf
      clear hx hf
      go_wp2_with fail
      go_quiet (fail)
      go_wp2_with fail
      go_roundw
      case rel => exact ⟨i + 1, by omega, by go_num, Hf.out.drewN _⟩
      case measure => simp [intOf]; omega
    · obtain rfl : i = ls.length := by omega
      have Hf := hide hf
      clear hf
      go_wp2_with fail
      go_ret
      exact ⟨rfl, (H5.out.2.2.trans Hf.out).below (by simp) (Nat.le_refl _)⟩
end Go.Proofs.YtmjdnmpiheaidaaDoor

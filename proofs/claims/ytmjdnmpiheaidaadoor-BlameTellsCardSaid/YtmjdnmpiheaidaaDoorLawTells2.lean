/- BlameTells: the walk of the law. -/
import Derived.Test.YtmjdnmpiheaidaaDoorLawTells
namespace Go.Proofs.YtmjdnmpiheaidaaDoor
open Go.RowKit
theorem least_ex {cs : List Ch} (h : Nums18 cs) : ∃ k, Least cs k := by
  have key : ∀ i, i ≤ cs.length → ∃ k, Least (cs.take i) k := by
    intro i
    induction i with
    | zero => exact fun _ => ⟨0, .inl ⟨by simp, rfl⟩⟩
    | succ i ih =>
      intro hi
      obtain ⟨k, hk⟩ := ih (by omega)
      have hx : cs[i]? = some (cs[i]'(by omega)) := List.getElem?_eq_getElem (by omega)
      have h1 := h _ (List.mem_of_getElem? hx)
      rcases Nat.eq_zero_or_pos k with h0 | h0
      · exact ⟨_, least_new hk hx h1 (.inl h0)⟩
      · rcases Nat.lt_or_ge (cs[i]'(by omega)).2 k with hlt | hge
        · exact ⟨_, least_new hk hx h1 (.inr hlt)⟩
        · exact ⟨k, least_old hk hx (by omega) hge⟩
  obtain ⟨k, hk⟩ := key cs.length (Nat.le_refl _)
  rw [List.take_length] at hk
  exact ⟨k, hk⟩
theorem least_unique {cs : List Ch} {k k' : Nat} (h : Least cs k) (h' : Least cs k') : k = k' := by
  rcases h with ⟨h1, rfl⟩ | ⟨h1, _, _, h2⟩
  · rcases h' with ⟨_, rfl⟩ | ⟨h3, _⟩
    · rfl
    · rw [h1] at h3; simp [nums] at h3
  · rcases h' with ⟨h3, rfl⟩ | ⟨h3, _, _, h4⟩
    · rw [h3] at h1; simp [nums] at h1
    · exact Nat.le_antisymm (h2 _ h3) (h4 _ h1)
set_option maxRecDepth 100000 in
set_option maxHeartbeats 8000000 in
theorem tells_walk {w : World} {ad : Nat → Addr} (hs : Sents All18 w.heap.size w ad) (A : Option Addr) (n c : Nat) (l : List Rw) (hl : l.length = n) (hn : n ≤ maxLen) (hok : ∀ x ∈ l, okR w w.heap.size x) (hr : Reads w w.heap.size 1 A n (l.flatMap encR)) (by_ : Int) :
    Calls Tryd.prog 3 #[.slice A n c, .int .i64 by_] w fun e w' => e = .returned (.bool true) ∧ Below w.heap.size w w' := by
  have HA := hide (awake_calls hs)
  have H0 := hide hs
  have HR := hide (And.intro hr (And.intro hl (And.intro hn hok)))
  clear hs hr hl hn hok
  go_enter Tryd.func3, Tryd.ntmps3
  go_wp2_with fail
  refine HA.out.mono ?_
  rintro e w1 ⟨rfl, hf1⟩
  have H1 := hide hf1
  have HG := hide (great_calls (c := c) (HR.out.1.fr0 hf1) HR.out.2.1 HR.out.2.2.1 fun x hx => ⟨(HR.out.2.2.2 x hx).1, (HR.out.2.2.2 x hx).2.1, (HR.out.2.2.2 x hx).2.2.fr0 hf1⟩)
  clear hf1 HA
  go_wp2_with fail
  refine HG.out.mono ?_
  rintro e w' ⟨rfl, rfl | ⟨rfl, hn20, hsm⟩⟩
  · go_wp2_with fail
    go_ret
    exact ⟨rfl, H1.out.below (by simp) (Nat.le_refl _)⟩
  have hS : SmallR w l := fun x hx => ⟨HR.out.2.2.2 x hx, hsm x hx⟩
  have hB := small_bd hS [] (by simp) (by simp)
  have hcl : (allC l).length ≤ 20 := Nat.le_trans (allC_len l) (by have := HR.out.2.1; omega)
  have hBn : Hid (∀ W (_ : Fr [] w W) (k : Int), Calls Tryd.prog 10 #[.slice A n c, .int .i64 k] W fun e w' => ∃ v, e = .returned v ∧ EV w' ad v (allC l) ∧ Fr [] W w') := hide fun W hf k =>
    bunch_calls (H0.out.fr0 hf) (HR.out.1.fr0 hf) HR.out.2.1 hn20 (fun x hx => ⟨(hS x hx).1.1, (hS x hx).1.2.1, (hS x hx).1.2.2.fr0 hf⟩) (fun x hx => (hS x hx).2.1) k
  have hLv : Hid (∀ W v (_ : Fr [] w W) (_ : EV W ad v (allC l)), Calls Tryd.prog 15 #[v] W (WalkPost W ((allC l).map lf))) := hide fun W v hf hv => hv.leaves (H0.out.fr0 hf) (by omega) hB
  have hRL : Hid (∀ W (_ : Fr [] w W), Calls Tryd.prog 11 #[.slice A n c] W fun e w' => ∃ v', e = .returned v' ∧ w'.ownsRow W.heap.size 36 2 v' (allC l).length (((allC l).map lf).flatMap encL) ∧ Fr [] W w') := hide fun W hf =>
    rleaves_calls (HR.out.1.fr0 hf) HR.out.2.1 hn20 fun x hx => ⟨⟨(hS x hx).1.1, (hS x hx).1.2.1, (hS x hx).1.2.2.fr0 hf⟩, (hS x hx).2⟩
  have h18 := hide (allC_nums l)
  clear hS hB hsm
  generalize allC l = cs at *
  go_wp2_with fail
  refine (hBn.out _ H1.out by_).mono ?_
  rintro e w2 ⟨v2, rfl, hv, hf⟩
  have H2 := hide (And.intro hv (H1.out.trans hf))
  clear hv hf
  go_wp2_with fail
  refine (hRL.out _ H2.out.2).mono ?_
  rintro e w3 ⟨x3, rfl, hr3, hf⟩
  obtain ⟨A3, c3, rfl⟩ := rleaf_row hr3
  have H3 := hide (And.intro hr3 (And.intro (H2.out.1.fr0 hf) (H2.out.2.trans hf)))
  have HLs := hide (fun W (hf3 : Fr [] w3 W) => rleast_calls (row_fr hr3 hf3 (by simp)) (by omega) h18.out)
  have e0 := eql_nil_false
  have e1 := eql_nil_nil
  clear hr3 hf
  rcases H3.out.2.1.form with ⟨rfl, hc0⟩ | ⟨hc0, t, a, rfl⟩
  · have hlen : ((cs.length : Int) == 0) = true := by rw [hc0]; rfl
    clear hc0
    obtain ⟨kk, hkk⟩ : ∃ k, Least cs k := least_ex h18.out
    have HNb := hide (number_ev (H0.out.fr0 H3.out.2.2) H3.out.2.1 (by omega) hkk)
    have HK := hide hkk
    clear hkk
    go_wp2_with fail
    refine HNb.out.mono ?_
    rintro e w4 ⟨rfl, hf4⟩
    have Hf4 := hide hf4
    clear hf4
    go_wp2_with fail
    refine (HLs.out _ Hf4.out).mono ?_
    rintro e w' ⟨k2, rfl, hk2, rfl⟩
    obtain rfl := least_unique HK.out hk2
    clear hk2
    have HLv := hide (hLv.out _ _ (H3.out.2.2.trans Hf4.out) (H3.out.2.1.fr0 Hf4.out))
    go_wp2_with fail
    refine HLv.out.mono ?_
    rintro e w5 ⟨x5, rfl, hr5, hf5⟩
    rw [List.length_map] at hr5
    obtain ⟨A5, c5, rfl⟩ := leaf_row hr5
    have HSm : Hid (Calls Tryd.prog 14 #[.slice A5 cs.length c5, .slice A3 cs.length c3] w5 fun e w' => e = .returned (.bool true) ∧ Fr [] w5 w') := hide (by
      have h := same_calls (ls := cs.map lf) (c := c5) (c' := c3) (A := A5) (A' := A3) (by rw [List.length_map]; exact hr5) (by rw [List.length_map]; exact row_fr H3.out.1 (Hf4.out.trans hf5) (by simp)) (by rw [List.length_map]; omega)
      rw [List.length_map] at h
      exact h)
    have H5 := hide (Hf4.out.trans hf5)
    clear hr5 hf5
    go_wp2_with fail
    refine HSm.out.mono ?_
    rintro e w6 ⟨rfl, hf6⟩
    have H6 := hide (H5.out.trans hf6)
    clear hf6
    go_wp2_with fail
    go_loopw [7, 8, 9] (fun s7 s8 s9 wr => Fr [] w3 wr ∧ ∃ z : Int, -1 ≤ z ∧ z ≤ 21 ∧ s7 = .int .i64 z) (fun s7 _ _ _ => (21 - intOf s7).toNat)
    case atStart => exact ⟨H6.out, -1, by omega, by omega, rfl⟩
    case round =>
      obtain ⟨hf, z, hz1, hz2, rfl⟩ := hrel
      have Hf := hide hf
      clear hf
      by_cases hz20 : z ≤ 20
      · have HH := hide (has_all (H0.out.fr0 (H3.out.2.2.trans Hf.out)) (H3.out.2.1.fr0 Hf.out) (by omega) h18.out z)
        go_wp2_with fail
        go_loopw [8, 9] (fun s8 s9 w7 => wr = w7 ∧ ∃ i : Nat, i ≤ cs.length ∧ s9 = .int .i64 i ∧ s8 = .bool (hasNum z (cs.take i))) (fun _ s9 _ => cs.length - (intOf s9).toNat)
        case atStart => exact ⟨rfl, 0, by omega, rfl, rfl⟩
        case round =>
          obtain ⟨rfl, i, hi, rfl, rfl⟩ := hrel
          have i0 : (0 : Int) ≤ (i : Int) := by omega
          by_cases hin : i < cs.length
          · have i1 : (i : Int) < (cs.length : Int) := by omega
            obtain ⟨x, hx⟩ : ∃ x, cs[i]? = some x := ⟨_, List.getElem?_eq_getElem hin⟩
            obtain ⟨g, hg, lg, p0, p1⟩ := rleaf_cells (row_fr H3.out.1 Hf.out (by simp)) (i := i) (x := lf x) (by rw [List.getElem?_map, hx]; rfl) hin
            subst hg
            change _ = some (Value.int IntKind.i64 (x.2 : Nat)) at p1
            have hsn := hasNum_snoc (z := z) hx
            generalize hasNum z (cs.take i) = q at hsn ⊢
            generalize hx2 : x.2 = m at p1 hsn
            clear hx hx2 p0
            cases q with
            | true =>
              have Hsn := hide hsn
              clear hsn
              go_wp2_with fail
              go_roundw
              case rel => exact ⟨trivial, i + 1, by omega, by go_num, by rw [Hsn.out]; rfl⟩
              case measure => simp [intOf]; omega
            | false =>
              rw [Bool.false_or] at hsn
              have Hsn := hide hsn
              clear hsn
              go_wp2_with fail
              go_roundw
              case rel => exact ⟨trivial, i + 1, by omega, by go_num, by rw [Hsn.out]; congr 1⟩
              case measure => simp [intOf]; omega
          · obtain hic : i = cs.length := by omega
            have hin' : ¬ (i : Int) < (cs.length : Int) := by omega
            rw [hic, List.take_length]
            rw [hic] at hin'
            clear hic
            generalize hasNum z cs = q at *
            go_wp2_with fail
            refine HH.out.mono ?_
            rintro e w8 ⟨rfl, hf8⟩
            have H8 := hide (Hf.out.trans hf8)
            clear hf8
            have hqq : (q != q) = false := by cases q <;> rfl
            go_wp2_with fail
            go_roundw
            case rel => exact ⟨H8.out, z + 1, by omega, by omega, by go_num⟩
            case measure => simp [intOf]; omega
      · obtain rfl : z = 21 := by omega
        go_wp2_with fail
        go_ret
        exact ⟨rfl, (H3.out.2.2.trans Hf.out).below (by simp) (Nat.le_refl _)⟩
  · have hlen : ((cs.length : Int) == 0) = false := by
      have : cs.length ≠ 0 := fun h => hc0 (List.eq_nil_of_length_eq_zero h)
      simp only [beq_eq_false_iff_ne, ne_eq]
      omega
    clear hc0
    obtain ⟨kk, hkk⟩ : ∃ k, Least cs k := least_ex h18.out
    have HNb := hide (number_ev (H0.out.fr0 H3.out.2.2) H3.out.2.1 (by omega) hkk)
    have HK := hide hkk
    clear hkk
    go_wp2_with fail
    refine HNb.out.mono ?_
    rintro e w4 ⟨rfl, hf4⟩
    have Hf4 := hide hf4
    clear hf4
    go_wp2_with fail
    refine (HLs.out _ Hf4.out).mono ?_
    rintro e w' ⟨k2, rfl, hk2, rfl⟩
    obtain rfl := least_unique HK.out hk2
    clear hk2
    have HLv := hide (hLv.out _ _ (H3.out.2.2.trans Hf4.out) (H3.out.2.1.fr0 Hf4.out))
    go_wp2_with fail
    refine HLv.out.mono ?_
    rintro e w5 ⟨x5, rfl, hr5, hf5⟩
    rw [List.length_map] at hr5
    obtain ⟨A5, c5, rfl⟩ := leaf_row hr5
    have HSm : Hid (Calls Tryd.prog 14 #[.slice A5 cs.length c5, .slice A3 cs.length c3] w5 fun e w' => e = .returned (.bool true) ∧ Fr [] w5 w') := hide (by
      have h := same_calls (ls := cs.map lf) (c := c5) (c' := c3) (A := A5) (A' := A3) (by rw [List.length_map]; exact hr5) (by rw [List.length_map]; exact row_fr H3.out.1 (Hf4.out.trans hf5) (by simp)) (by rw [List.length_map]; omega)
      rw [List.length_map] at h
      exact h)
    have H5 := hide (Hf4.out.trans hf5)
    clear hr5 hf5
    go_wp2_with fail
    refine HSm.out.mono ?_
    rintro e w6 ⟨rfl, hf6⟩
    have H6 := hide (H5.out.trans hf6)
    clear hf6
    go_wp2_with fail
    go_loopw [7, 8, 9] (fun s7 s8 s9 wr => Fr [] w3 wr ∧ ∃ z : Int, -1 ≤ z ∧ z ≤ 21 ∧ s7 = .int .i64 z) (fun s7 _ _ _ => (21 - intOf s7).toNat)
    case atStart => exact ⟨H6.out, -1, by omega, by omega, rfl⟩
    case round =>
      obtain ⟨hf, z, hz1, hz2, rfl⟩ := hrel
      have Hf := hide hf
      clear hf
      by_cases hz20 : z ≤ 20
      · have HH := hide (has_all (H0.out.fr0 (H3.out.2.2.trans Hf.out)) (H3.out.2.1.fr0 Hf.out) (by omega) h18.out z)
        go_wp2_with fail
        go_loopw [8, 9] (fun s8 s9 w7 => wr = w7 ∧ ∃ i : Nat, i ≤ cs.length ∧ s9 = .int .i64 i ∧ s8 = .bool (hasNum z (cs.take i))) (fun _ s9 _ => cs.length - (intOf s9).toNat)
        case atStart => exact ⟨rfl, 0, by omega, rfl, rfl⟩
        case round =>
          obtain ⟨rfl, i, hi, rfl, rfl⟩ := hrel
          have i0 : (0 : Int) ≤ (i : Int) := by omega
          by_cases hin : i < cs.length
          · have i1 : (i : Int) < (cs.length : Int) := by omega
            obtain ⟨x, hx⟩ : ∃ x, cs[i]? = some x := ⟨_, List.getElem?_eq_getElem hin⟩
            obtain ⟨g, hg, lg, p0, p1⟩ := rleaf_cells (row_fr H3.out.1 Hf.out (by simp)) (i := i) (x := lf x) (by rw [List.getElem?_map, hx]; rfl) hin
            subst hg
            change _ = some (Value.int IntKind.i64 (x.2 : Nat)) at p1
            have hsn := hasNum_snoc (z := z) hx
            generalize hasNum z (cs.take i) = q at hsn ⊢
            generalize hx2 : x.2 = m at p1 hsn
            clear hx hx2 p0
            cases q with
            | true =>
              have Hsn := hide hsn
              clear hsn
              go_wp2_with fail
              go_roundw
              case rel => exact ⟨trivial, i + 1, by omega, by go_num, by rw [Hsn.out]; rfl⟩
              case measure => simp [intOf]; omega
            | false =>
              rw [Bool.false_or] at hsn
              have Hsn := hide hsn
              clear hsn
              go_wp2_with fail
              go_roundw
              case rel => exact ⟨trivial, i + 1, by omega, by go_num, by rw [Hsn.out]; congr 1⟩
              case measure => simp [intOf]; omega
          · obtain hic : i = cs.length := by omega
            have hin' : ¬ (i : Int) < (cs.length : Int) := by omega
            rw [hic, List.take_length]
            rw [hic] at hin'
            clear hic
            generalize hasNum z cs = q at *
            go_wp2_with fail
            refine HH.out.mono ?_
            rintro e w8 ⟨rfl, hf8⟩
            have H8 := hide (Hf.out.trans hf8)
            clear hf8
            have hqq : (q != q) = false := by cases q <;> rfl
            go_wp2_with fail
            go_roundw
            case rel => exact ⟨H8.out, z + 1, by omega, by omega, by go_num⟩
            case measure => simp [intOf]; omega
      · obtain rfl : z = 21 := by omega
        go_wp2_with fail
        go_ret
        exact ⟨rfl, (H3.out.2.2.trans Hf.out).below (by simp) (Nat.le_refl _)⟩
end Go.Proofs.YtmjdnmpiheaidaaDoor

/- CodeShown: the walk of the law. -/
import Derived.Test.YthjakngpegdhmaaDoorEnv
namespace Go.Proofs.YthjakngpegdhmaaDoor
open Go.RowKit

def compF (i : Nat) : List (UInt8 × Int × Bool) := [(97, 1, decide (i ≤ 0)), (98, 2, decide (i ≤ 1)), (99, 3, decide (i ≤ 2)), (100, 4, false)]
theorem compF_step : ∀ i, i < 4 → ((compF i).flatMap encC).set (i * 7 + 2) (.bool false) = (compF (i + 1)).flatMap encC := fun i h =>
  match i with
  | 0 => rfl
  | 1 => rfl
  | 2 => rfl
  | 3 => rfl
  | i + 4 => by omega
theorem compF_end : ((compF 4).map fun x => (x.2.1, x.2.2)) = csS := rfl
set_option maxRecDepth 100000 in
set_option maxHeartbeats 8000000 in
theorem shown_walk {K : List Nat} {ad : Nat → Addr} {w : World} (E : Env K ad w) {A : Option Addr} {n c : Nat} {L : List Ins} (hln : L.length = n) (hn : n ≤ maxLen) (hr : Reads w w.heap.size 3 A n (L.flatMap encIns)) :
    Calls Tryd.prog 6 #[.slice A n c] w fun e w' => e = .returned (.bool true) ∧ Below w.heap.size w w' := by
  unfold maxLen at hn
  have HA := hide E.awake
  have H0 := hide (And.intro E (And.intro hr hln))
  clear hr hln E
  by_cases h80 : 80 < n
  · have k80 : (80 : Int) < (n : Int) := by omega
    go_enter Tryd.func6, Tryd.ntmps6
    go_wp2_with fail
    refine HA.out.mono ?_
    rintro e w1 ⟨rfl, hf⟩
    have Hf := hide hf
    clear hf
    go_wp2_with fail
    go_ret
    exact ⟨rfl, Hf.out.below (by simp) (Nat.le_refl _)⟩
  have k80 : ¬ (80 : Int) < (n : Int) := by omega
  go_enter Tryd.func6, Tryd.ntmps6
  go_wp2_with fail
  refine HA.out.mono ?_
  rintro e w1 ⟨rfl, hf1⟩
  have Hf1 := hide hf1
  clear hf1 HA
  go_wp2_with fail
  refine plain_calls.mono ?_
  rintro e w2 ⟨gc, cc, gr, rfl, hf2, hrow⟩
  have Hf2 := hide (Hf1.out.trans hf2)
  have q := H0.out.1.check (c := c) (gr := gr) Hf2.out hrow rfl (H0.out.2.1.up Hf2.out) H0.out.2.2 (by omega)
  rw [compL_cs] at q
  have Q := hide q
  clear q hf2 hrow Hf1
  go_wp2_with fail
  refine Q.out.mono ?_
  rintro e w3 ⟨v, rfl, hf3, hok, hno, -⟩
  have Hf3 := hide (Hf2.out.trans hf3)
  clear hf3 Q Hf2
  by_cases hC : okC csP 2 L
  rotate_left
  · obtain ⟨t, a, rfl⟩ := hno hC
    clear hok hno
    go_wp2_with fail
    go_ret
    exact ⟨rfl, Hf3.out.below (by simp) (Nat.le_refl _)⟩
  obtain rfl := hok hC
  have HC := hide hC
  clear hok hno hC
  go_wp2_with fail
  refine plain_calls.mono ?_
  rintro e w4 ⟨gc, cc, gr, rfl, hf4, hrow⟩
  have Hf4 := hide ((Hf3.out.trans hf4).alloc (.cells #[.slice (some ⟨gc, 0, none⟩) 4 cc, .slice (some ⟨gr, 0, none⟩) 2 2] 44))
  have Hrow := hide (And.intro (hrow.alloc (.cells #[.slice (some ⟨gc, 0, none⟩) 4 cc, .slice (some ⟨gr, 0, none⟩) 2 2] 44)) (And.intro (Blk.new w4 44 #[.slice (some ⟨gc, 0, none⟩) 4 cc, .slice (some ⟨gr, 0, none⟩) 2 2]) Hf3.out.size))
  clear hf4 hrow Hf3
  go_wp2_with fail
  have lW := Hrow.out.2.1.lt
  generalize World.alloc w4 _ = w5 at *
  go_loopw [4, 5] (fun s4 s5 wr => ∃ i : Nat, i ≤ n ∧ s4 = .bool ((L.take i).any readsB) ∧ s5 = .int .i64 i ∧ wr = w5) (fun _ s5 _ => n - (intOf s5).toNat)
  case atStart => exact ⟨0, by omega, by rw [List.take_zero]; rfl, rfl, rfl⟩
  case round =>
    obtain ⟨i, hi, rfl, rfl, rfl⟩ := hrel
    by_cases hin : i < n
    · obtain ⟨x, hx⟩ : ∃ x, L[i]? = some x := ⟨_, List.getElem?_eq_getElem (by rw [H0.out.2.2]; omega)⟩
      obtain ⟨bA, oA, rfl, hbA, a0, a1, a2⟩ := ins_get (H0.out.2.1.up Hf4.out) H0.out.2.2 hx
      have hii := HC.out.2.1 x (List.mem_of_getElem? hx)
      have htk : (L.take (i + 1)).any readsB = ((L.take i).any readsB || readsB x) := by rw [List.take_add_one, hx]; simp
      have Htk := hide htk
      have i0 : (0 : Int) ≤ (i : Int) := by omega
      have i1 : (i : Int) < (n : Int) := by omega
      clear hx htk a2
      by_cases hrd : readsB x = true
      · obtain ⟨g0, g2⟩ := ins_arg hii hrd
        rw [hrd, Bool.or_true] at Htk
        have hop : x.op = 22 ∨ x.op = 24 := by simpa [readsB] using hrd
        clear hii hrd
        obtain ⟨op, ia, ib⟩ := x
        simp only at a0 a1 g0 g2 hop
        rcases hop with rfl | rfl
        all_goals
          go_wp2_with fail
          go_roundw
          case rel => exact ⟨i + 1, by omega, by rw [Htk.out], by go_num, by first | rfl | trivial⟩
          case measure => simp [intOf]; omega
      · have hrf : readsB x = false := by simpa using hrd
        rw [hrf, Bool.or_false] at Htk
        have hop : ¬ (x.op = 22 ∨ x.op = 24) := by simpa [readsB] using hrf
        have h22 : (x.op == 22) = false := by simp; omega
        have h24 : (x.op == 24) = false := by simp; omega
        clear hii hrd hrf hop
        obtain ⟨op, ia, ib⟩ := x
        simp only at a0 a1 h22 h24
        go_wp2_with fail
        go_roundw
        case rel => exact ⟨i + 1, by omega, by rw [Htk.out], by go_num, by first | rfl | trivial⟩
        case measure => simp [intOf]; omega
    · obtain rfl : i = n := by omega
      rw [List.take_of_length_le (by rw [H0.out.2.2]; omega)]
      generalize hany : L.any readsB = rd
      have Hany := hide hany
      clear hany
      go_wp2_with fail
      have nG : gc ≠ w4.heap.size := fun e => row_blk_ne Hrow.out.1 Hrow.out.2.1 (by decide) (by rw [e]; rfl)
      have nG' := nG.symm
      have hwg : w.heap.size ≤ gc := Nat.le_trans Hrow.out.2.2 (row_lt Hrow.out.1 rfl).2
      have hR0 : wr.ownsRow w3.heap.size 56 7 (.slice (some ⟨gc, 0, none⟩) 4 cc) 4 ((compF 0).flatMap encC) := Hrow.out.1
      have H5 := hide (And.intro hR0 (And.intro Hrow.out.2.1 Hf4.out))
      clear hR0 Hrow Hf4
      go_loopw [6] (fun s6 wr2 => ∃ j : Nat, j ≤ 4 ∧ s6 = .int .i64 j ∧ wr2.ownsRow w3.heap.size 56 7 (.slice (some ⟨gc, 0, none⟩) 4 cc) 4 ((compF j).flatMap encC) ∧ Blk wr2 w4.heap.size 44 #[.slice (some ⟨gc, 0, none⟩) 4 cc, .slice (some ⟨gr, 0, none⟩) 2 2] ∧ Fr [] w wr2) (fun s6 _ => 4 - (intOf s6).toNat)
      case atStart => exact ⟨0, by omega, rfl, H5.out⟩
      case round =>
        clear H5
        obtain ⟨j, hj, rfl, hR, hB, hf⟩ := hrel
        have b0 := hB.at_ 0 (v := .slice (some ⟨gc, 0, none⟩) 4 cc) rfl
        have b1 := hB.at_ 1 (v := .slice (some ⟨gr, 0, none⟩) 2 2) rfl
        have lB := hB.lt
        have lgc := (row_lt hR rfl).1
        obtain ⟨cur, hcur, -, -, -, -, -⟩ := row_blk hR
        by_cases hj4 : j = 4
        · subst hj4
          have q := H0.out.1.check (c := c) (gr := gr) hf hR rfl (H0.out.2.1.up hf) H0.out.2.2 (by omega)
          rw [compF_end] at q
          have Q := hide q
          have Hf := hide hf
          clear q hR hB hf hcur
          go_wp2_with fail
          refine Q.out.mono ?_
          rintro e w7 ⟨v, rfl, hf7, hok, hno, -⟩
          have hiff := shown_ok HC.out
          rw [Hany.out] at hiff
          have Hf7 := hide (Hf.out.trans hf7)
          clear hf7 Q Hf
          cases rd with
          | false =>
            obtain rfl := hok (hiff.mpr rfl)
            clear hok hno hiff
            go_wp2_with fail
            go_ret
            exact ⟨rfl, Hf7.out.below (by simp) (Nat.le_refl _)⟩
          | true =>
            obtain ⟨t, a, rfl⟩ := hno (fun h => by have := hiff.mp h; cases this)
            clear hok hno hiff
            go_wp2_with fail
            go_ret
            exact ⟨rfl, Hf7.out.below (by simp) (Nat.le_refl _)⟩
        obtain rfl | rfl | rfl | rfl : j = 0 ∨ j = 1 ∨ j = 2 ∨ j = 3 := by omega
        · rw [show ((0 : Nat) : Int) = 0 from rfl]
          have c0 := row_cell hR (i := 2) (u := .bool true) rfl
          have fc := hcur.frozen
          have Hj := hide (And.intro hR (And.intro hB (And.intro hf hcur)))
          clear hR hB hf hcur
          go_wp2_with fail
          obtain ⟨hR, hB, hf, hcur⟩ := Hj.out
          go_roundw
          case rel =>
            refine ⟨1, by omega, rfl, ?_, hB.far (Ne.symm nG) _, hf.setCell (.inr hwg) _⟩
            have q := row_store hR 2 (by omega) (.bool false)
            rw [compF_step 0 (by omega)] at q
            exact q
          case measure => simp [intOf]
        · rw [show ((1 : Nat) : Int) = 1 from rfl]
          have c0 := row_cell hR (i := 9) (u := .bool true) rfl
          have fc := hcur.frozen
          have Hj := hide (And.intro hR (And.intro hB (And.intro hf hcur)))
          clear hR hB hf hcur
          go_wp2_with fail
          obtain ⟨hR, hB, hf, hcur⟩ := Hj.out
          go_roundw
          case rel =>
            refine ⟨2, by omega, rfl, ?_, hB.far (Ne.symm nG) _, hf.setCell (.inr hwg) _⟩
            have q := row_store hR 9 (by omega) (.bool false)
            rw [compF_step 1 (by omega)] at q
            exact q
          case measure => simp [intOf]
        · rw [show ((2 : Nat) : Int) = 2 from rfl]
          have c0 := row_cell hR (i := 16) (u := .bool true) rfl
          have fc := hcur.frozen
          have Hj := hide (And.intro hR (And.intro hB (And.intro hf hcur)))
          clear hR hB hf hcur
          go_wp2_with fail
          obtain ⟨hR, hB, hf, hcur⟩ := Hj.out
          go_roundw
          case rel =>
            refine ⟨3, by omega, rfl, ?_, hB.far (Ne.symm nG) _, hf.setCell (.inr hwg) _⟩
            have q := row_store hR 16 (by omega) (.bool false)
            rw [compF_step 2 (by omega)] at q
            exact q
          case measure => simp [intOf]
        · rw [show ((3 : Nat) : Int) = 3 from rfl]
          have c0 := row_cell hR (i := 23) (u := .bool false) rfl
          have fc := hcur.frozen
          have Hj := hide (And.intro hR (And.intro hB (And.intro hf hcur)))
          clear hR hB hf hcur
          go_wp2_with fail
          obtain ⟨hR, hB, hf, hcur⟩ := Hj.out
          go_roundw
          case rel =>
            refine ⟨4, by omega, rfl, ?_, hB.far (Ne.symm nG) _, hf.setCell (.inr hwg) _⟩
            have q := row_store hR 23 (by omega) (.bool false)
            rw [compF_step 3 (by omega)] at q
            exact q
          case measure => simp [intOf]
end Go.Proofs.YthjakngpegdhmaaDoor

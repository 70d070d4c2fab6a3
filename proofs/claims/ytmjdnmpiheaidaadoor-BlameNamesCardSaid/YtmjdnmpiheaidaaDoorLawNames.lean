/- BlameNames: the walk of the law. -/
import Derived.Test.YtmjdnmpiheaidaaDoorAwakeB
import Derived.Test.YtmjdnmpiheaidaaDoorNew
import Derived.Test.YtmjdnmpiheaidaaDoorRest
import Derived.Deep.CutBlock
import Derived.Laws.Tables
import Derived.Deep.WholeRow
import Derived.Deep.DeepCutAuto
namespace Go.Proofs.YtmjdnmpiheaidaaDoor
open Go.RowKit
def arr (ad : Nat → Addr) : Array Value := #[.nilIface, sv (ad 1), sv (ad 2), sv (ad 3), sv (ad 4), sv (ad 5), sv (ad 6), sv (ad 7), sv (ad 8), sv (ad 9), sv (ad 10), sv (ad 11), sv (ad 12), sv (ad 13), sv (ad 14), sv (ad 15), sv (ad 16), sv (ad 17), sv (ad 18)]
theorem arr_at (ad : Nat → Addr) {j : Nat} (h1 : 1 ≤ j) (h2 : j ≤ 18) : (arr ad)[j]? = some (sv (ad j)) := by
  have : j = 1 ∨ j = 2 ∨ j = 3 ∨ j = 4 ∨ j = 5 ∨ j = 6 ∨ j = 7 ∨ j = 8 ∨ j = 9 ∨ j = 10 ∨ j = 11 ∨ j = 12 ∨ j = 13 ∨ j = 14 ∨ j = 15 ∨ j = 16 ∨ j = 17 ∨ j = 18 := by omega
  rcases this with rfl | rfl | rfl | rfl | rfl | rfl | rfl | rfl | rfl | rfl | rfl | rfl | rfl | rfl | rfl | rfl | rfl | rfl <;> rfl
theorem arrSize : (Tryd.prog.info? 39).map (·.size) = some (arr (fun _ => ⟨0, 0, none⟩)).size := by kernel_rfl
theorem arrSize' (ad : Nat → Addr) : (Tryd.prog.info? 39).map (·.size) = some (arr ad).size := arrSize
theorem arrOne (ad : Nat → Addr) : (arr ad).all (·.oneCell') = true := by simp [arr, Value.oneCell']
set_option maxRecDepth 100000 in
set_option maxHeartbeats 16000000 in
theorem names_walk {w : World} {ad : Nat → Addr} (hs : Sents All18 w.heap.size w ad) (s : ByteArray) (n0 : Int) :
    Calls Tryd.prog 4 #[.string s, .int .i64 n0] w fun e w' => e = .returned (.bool true) ∧ Below w.heap.size w w' := by
  have HA := hide (awake_calls hs)
  have H0 := hide hs
  clear hs
  obtain ⟨u, hu, -⟩ := u64_nat n0
  have hp : u % 18 < 18 := Nat.mod_lt _ (by omega)
  have nz : (18 : Int) ≠ 0 := by omega
  have ef : (u : Int) % 18 = ((u % 18 : Nat) : Int) := by omega
  generalize u % 18 = p at *
  go_enter Tryd.func4, Tryd.ntmps4
  go_wp2_with fail
  refine HA.out.mono ?_
  rintro e w1 ⟨rfl, hf⟩
  have H1 := hide hf
  have hs1 := H0.out.fr0 hf
  have q1 : w1.cell? ⟨0, 0, none⟩ = some (sv (ad 1)) := hs1.cell 1 (mem_all18 (by omega) (by omega))
  have l1 : 0 < w1.heap.size := Nat.lt_of_lt_of_le (hs1.glob 1 (mem_all18 (by omega) (by omega))) hs1.le
  have q2 : w1.cell? ⟨1, 0, none⟩ = some (sv (ad 2)) := hs1.cell 2 (mem_all18 (by omega) (by omega))
  have l2 : 1 < w1.heap.size := Nat.lt_of_lt_of_le (hs1.glob 2 (mem_all18 (by omega) (by omega))) hs1.le
  have q3 : w1.cell? ⟨2, 0, none⟩ = some (sv (ad 3)) := hs1.cell 3 (mem_all18 (by omega) (by omega))
  have l3 : 2 < w1.heap.size := Nat.lt_of_lt_of_le (hs1.glob 3 (mem_all18 (by omega) (by omega))) hs1.le
  have q4 : w1.cell? ⟨3, 0, none⟩ = some (sv (ad 4)) := hs1.cell 4 (mem_all18 (by omega) (by omega))
  have l4 : 3 < w1.heap.size := Nat.lt_of_lt_of_le (hs1.glob 4 (mem_all18 (by omega) (by omega))) hs1.le
  have q5 : w1.cell? ⟨4, 0, none⟩ = some (sv (ad 5)) := hs1.cell 5 (mem_all18 (by omega) (by omega))
  have l5 : 4 < w1.heap.size := Nat.lt_of_lt_of_le (hs1.glob 5 (mem_all18 (by omega) (by omega))) hs1.le
  have q6 : w1.cell? ⟨5, 0, none⟩ = some (sv (ad 6)) := hs1.cell 6 (mem_all18 (by omega) (by omega))
  have l6 : 5 < w1.heap.size := Nat.lt_of_lt_of_le (hs1.glob 6 (mem_all18 (by omega) (by omega))) hs1.le
  have q7 : w1.cell? ⟨6, 0, none⟩ = some (sv (ad 7)) := hs1.cell 7 (mem_all18 (by omega) (by omega))
  have l7 : 6 < w1.heap.size := Nat.lt_of_lt_of_le (hs1.glob 7 (mem_all18 (by omega) (by omega))) hs1.le
  have q8 : w1.cell? ⟨7, 0, none⟩ = some (sv (ad 8)) := hs1.cell 8 (mem_all18 (by omega) (by omega))
  have l8 : 7 < w1.heap.size := Nat.lt_of_lt_of_le (hs1.glob 8 (mem_all18 (by omega) (by omega))) hs1.le
  have q9 : w1.cell? ⟨8, 0, none⟩ = some (sv (ad 9)) := hs1.cell 9 (mem_all18 (by omega) (by omega))
  have l9 : 8 < w1.heap.size := Nat.lt_of_lt_of_le (hs1.glob 9 (mem_all18 (by omega) (by omega))) hs1.le
  have q10 : w1.cell? ⟨9, 0, none⟩ = some (sv (ad 10)) := hs1.cell 10 (mem_all18 (by omega) (by omega))
  have l10 : 9 < w1.heap.size := Nat.lt_of_lt_of_le (hs1.glob 10 (mem_all18 (by omega) (by omega))) hs1.le
  have q11 : w1.cell? ⟨10, 0, none⟩ = some (sv (ad 11)) := hs1.cell 11 (mem_all18 (by omega) (by omega))
  have l11 : 10 < w1.heap.size := Nat.lt_of_lt_of_le (hs1.glob 11 (mem_all18 (by omega) (by omega))) hs1.le
  have q12 : w1.cell? ⟨11, 0, none⟩ = some (sv (ad 12)) := hs1.cell 12 (mem_all18 (by omega) (by omega))
  have l12 : 11 < w1.heap.size := Nat.lt_of_lt_of_le (hs1.glob 12 (mem_all18 (by omega) (by omega))) hs1.le
  have q13 : w1.cell? ⟨12, 0, none⟩ = some (sv (ad 13)) := hs1.cell 13 (mem_all18 (by omega) (by omega))
  have l13 : 12 < w1.heap.size := Nat.lt_of_lt_of_le (hs1.glob 13 (mem_all18 (by omega) (by omega))) hs1.le
  have q14 : w1.cell? ⟨13, 0, none⟩ = some (sv (ad 14)) := hs1.cell 14 (mem_all18 (by omega) (by omega))
  have l14 : 13 < w1.heap.size := Nat.lt_of_lt_of_le (hs1.glob 14 (mem_all18 (by omega) (by omega))) hs1.le
  have q15 : w1.cell? ⟨14, 0, none⟩ = some (sv (ad 15)) := hs1.cell 15 (mem_all18 (by omega) (by omega))
  have l15 : 14 < w1.heap.size := Nat.lt_of_lt_of_le (hs1.glob 15 (mem_all18 (by omega) (by omega))) hs1.le
  have q16 : w1.cell? ⟨15, 0, none⟩ = some (sv (ad 16)) := hs1.cell 16 (mem_all18 (by omega) (by omega))
  have l16 : 15 < w1.heap.size := Nat.lt_of_lt_of_le (hs1.glob 16 (mem_all18 (by omega) (by omega))) hs1.le
  have q17 : w1.cell? ⟨16, 0, none⟩ = some (sv (ad 17)) := hs1.cell 17 (mem_all18 (by omega) (by omega))
  have l17 : 16 < w1.heap.size := Nat.lt_of_lt_of_le (hs1.glob 17 (mem_all18 (by omega) (by omega))) hs1.le
  have q18 : w1.cell? ⟨17, 0, none⟩ = some (sv (ad 18)) := hs1.cell 18 (mem_all18 (by omega) (by omega))
  have l18 : 17 < w1.heap.size := Nat.lt_of_lt_of_le (hs1.glob 18 (mem_all18 (by omega) (by omega))) hs1.le
  clear hf hs1 HA
  by_cases hlen : 100 < s.size
  · have hl' : (100 : Int) < (s.size : Int) := by omega
    go_wp2_with fail
    go_ret
    exact ⟨rfl, H1.out.below (by simp) (Nat.le_refl _)⟩
  · have hl' : ¬ (100 : Int) < (s.size : Int) := by omega
    go_upto_region 6 with (refine wpList_store_row rfl 39 _ _ rfl w1.heap.size (arr ad) rfl rfl 39 _ (Blk.new w1 _ _) (arrSize' ad) rfl (arrOne ad) ?_)
    rw [World.setRow_alloc_new]
    have hb2 : Blk (w1.alloc (.cells (arr ad) 39)) w1.heap.size 39 (arr ad) := Blk.new _ _ _
    have hf2 : Fr [] w1 (w1.alloc (.cells (arr ad) 39)) := (Fr.refl _ _).alloc _
    generalize World.alloc w1 _ = w2 at hb2 hf2 ⊢
    have HB := hide hb2
    have H2 := hide (H1.out.trans hf2)
    clear q1 l1 q2 l2 q3 l3 q4 l4 q5 l5 q6 l6 q7 l7 q8 l8 q9 l9 q10 l10 q11 l11 q12 l12 q13 l13 q14 l14 q15 l15 q16 l16 q17 l17 q18 l18 hb2 hf2
    go_upto_region 7 with (fail)
    obtain ⟨q, hq⟩ : ∃ q : Nat, q = p + 1 := ⟨_, rfl⟩
    rw [show (1 : Int) + (p : Int) = (q : Int) by omega]
    have q1 : 1 ≤ q := by omega
    have q2 : q ≤ 18 := by omega
    clear hq hu ef hp nz
    go_wp2_with fail
    go_loopw [7] (fun s7 wr => ∃ i : Nat, 1 ≤ i ∧ i ≤ 19 ∧ s7 = .int .i64 i ∧ Fr [] w2 wr) (fun s7 _ => 19 - (intOf s7).toNat)
    case atStart => exact ⟨1, by omega, by omega, rfl, Fr.refl _ _⟩
    case round =>
      obtain ⟨i, hi1, hi2, rfl, hf⟩ := hrel
      by_cases hi18 : i ≤ 18
      · have i18 : (i : Int) ≤ 18 := by omega
        have HO := hide (of_calls (H0.out.fr0 (H2.out.trans hf)) i hi1 hi18)
        have Hf := hide hf
        clear hf
        go_wp2_with fail
        refine HO.out.mono ?_
        rintro e w' ⟨rfl, rfl⟩
        go_wp2_with fail
        refine (at_hc (sent_hc (w := wr) (ad := ad) hi1 hi18) s).mono ?_
        rintro e w3 ⟨b, rfl, hc, hf3⟩
        have H3 := hide (And.intro hc (Hf.out.trans hf3))
        have HO2 := hide (of_calls (H0.out.fr0 (H2.out.trans H3.out.2)) q q1 q2)
        clear hc hf3 HO
        go_wp2_with fail
        refine HO2.out.mono ?_
        rintro e w' ⟨rfl, rfl⟩
        go_wp2_with fail
        refine (all_ev (css := [[([s], i)], [([], q)]]) (vs := [bv b, sv (ad q)]) (row_mk (Blk.new w3 _ _) (Nat.le_refl _) (Nat.le_refl _) (by simp [maxLen]) rfl rfl) (EL.app (EL.one (H3.out.1.fr0 ((Fr.refl [] w3).alloc _)).ev) (EL.one (sent_hc q1 q2).ev)) (by simp) (by simp)).mono ?_
        rintro e w4 ⟨x, rfl, hx, hf4⟩
        have hx' : EV w4 ad x [([s], i), ([], q)] := hx
        have hf4' := (Fr.refl [] w3).alloc (.cells #[bv b, sv (ad q)] 26) |>.trans hf4
        have H4 := hide (And.intro hx' (And.intro (H3.out.1.fr0 hf4') (H3.out.2.trans hf4')))
        obtain ⟨-, t, a, rfl⟩ := hx'.form.resolve_left (fun h => by cases h.2)
        clear hx hx' hf4 hf4' HO2 H3
        go_wp2_with fail
        go_loopw [10] (fun s10 w5 => ∃ j : Nat, 1 ≤ j ∧ j ≤ 19 ∧ s10 = .int .i64 j ∧ Fr [] w4 w5) (fun s10 _ => 19 - (intOf s10).toNat)
        case atStart => exact ⟨1, by omega, by omega, rfl, Fr.refl _ _⟩
        case round =>
          obtain ⟨j, hj1, hj2, rfl, hfj⟩ := hrel
          by_cases hj18 : j ≤ 18
          · have j18 : (j : Int) ≤ 18 := by omega
            have j0 : (0 : Int) ≤ (j : Int) := by omega
            have j19 : (j : Int) < 19 := by omega
            have hbj := HB.out.fr0 (H4.out.2.2.trans hfj)
            have cj := hbj.at_ j (arr_at ad hj1 hj18)
            have lj := hbj.lt
            have I1 := hide (fun W (hf : Fr [] w4 W) => is_ev (H0.out.fr0 (H2.out.trans (H4.out.2.2.trans hf))) (mem_all18 hj1 hj18) ((H4.out.2.1.fr0 hf).ev) (by simp))
            have I2 := hide (fun W (hf : Fr [] w4 W) => is_ev (H0.out.fr0 (H2.out.trans (H4.out.2.2.trans hf))) (mem_all18 hj1 hj18) (H4.out.1.fr0 hf) (by simp))
            clear hbj
            by_cases hij : i = j
            · by_cases hqj : q = j
              · have b1 : decide (j ∈ nums [(([s], i) : Ch)]) = true := by simp [nums]; omega
                have b2 : decide (j ∈ nums [(([s], i) : Ch), ([], q)]) = true := by simp [nums]; omega
                rw [b1] at I1
                rw [b2] at I2
                have f1 : ((i : Int) == (j : Int)) = true := by simp; omega
                have f2 : ((q : Int) == (j : Int)) = true := by simp; omega
                clear b1 b2 hij hqj
                go_wp2_with fail
                refine (I1.out _ hfj).mono ?_
                rintro e w6 ⟨rfl, hf6⟩
                have c6 := (hf6.cell (p := ⟨w1.heap.size, j, none⟩) lj (by simp)).trans cj
                have Hf6 := hide hf6
                clear hf6
                go_wp2_with fail
                refine (I2.out _ (hfj.trans Hf6.out)).mono ?_
                rintro e w7 ⟨rfl, hf7⟩
                have Hf7 := hide (hfj.trans (Hf6.out.trans hf7))
                clear hf7
                go_wp2_with fail
                go_roundw
                case rel => exact ⟨j + 1, by omega, by omega, by go_num, Hf7.out⟩
                case measure => simp [intOf]; omega
              · have b1 : decide (j ∈ nums [(([s], i) : Ch)]) = true := by simp [nums]; omega
                have b2 : decide (j ∈ nums [(([s], i) : Ch), ([], q)]) = true := by simp [nums]; omega
                rw [b1] at I1
                rw [b2] at I2
                have f1 : ((i : Int) == (j : Int)) = true := by simp; omega
                have f2 : ((q : Int) == (j : Int)) = false := by simp; omega
                clear b1 b2 hij hqj
                go_wp2_with fail
                refine (I1.out _ hfj).mono ?_
                rintro e w6 ⟨rfl, hf6⟩
                have c6 := (hf6.cell (p := ⟨w1.heap.size, j, none⟩) lj (by simp)).trans cj
                have Hf6 := hide hf6
                clear hf6
                go_wp2_with fail
                refine (I2.out _ (hfj.trans Hf6.out)).mono ?_
                rintro e w7 ⟨rfl, hf7⟩
                have Hf7 := hide (hfj.trans (Hf6.out.trans hf7))
                clear hf7
                go_wp2_with fail
                go_roundw
                case rel => exact ⟨j + 1, by omega, by omega, by go_num, Hf7.out⟩
                case measure => simp [intOf]; omega
            · by_cases hqj : q = j
              · have b1 : decide (j ∈ nums [(([s], i) : Ch)]) = false := by simp [nums]; omega
                have b2 : decide (j ∈ nums [(([s], i) : Ch), ([], q)]) = true := by simp [nums]; omega
                rw [b1] at I1
                rw [b2] at I2
                have f1 : ((i : Int) == (j : Int)) = false := by simp; omega
                have f2 : ((q : Int) == (j : Int)) = true := by simp; omega
                clear b1 b2 hij hqj
                go_wp2_with fail
                refine (I1.out _ hfj).mono ?_
                rintro e w6 ⟨rfl, hf6⟩
                have c6 := (hf6.cell (p := ⟨w1.heap.size, j, none⟩) lj (by simp)).trans cj
                have Hf6 := hide hf6
                clear hf6
                go_wp2_with fail
                refine (I2.out _ (hfj.trans Hf6.out)).mono ?_
                rintro e w7 ⟨rfl, hf7⟩
                have Hf7 := hide (hfj.trans (Hf6.out.trans hf7))
                clear hf7
                go_wp2_with fail
                go_roundw
                case rel => exact ⟨j + 1, by omega, by omega, by go_num, Hf7.out⟩
                case measure => simp [intOf]; omega
              · have b1 : decide (j ∈ nums [(([s], i) : Ch)]) = false := by simp [nums]; omega
                have b2 : decide (j ∈ nums [(([s], i) : Ch), ([], q)]) = false := by simp [nums]; omega
                rw [b1] at I1
                rw [b2] at I2
                have f1 : ((i : Int) == (j : Int)) = false := by simp; omega
                have f2 : ((q : Int) == (j : Int)) = false := by simp; omega
                clear b1 b2 hij hqj
                go_wp2_with fail
                refine (I1.out _ hfj).mono ?_
                rintro e w6 ⟨rfl, hf6⟩
                have c6 := (hf6.cell (p := ⟨w1.heap.size, j, none⟩) lj (by simp)).trans cj
                have Hf6 := hide hf6
                clear hf6
                go_wp2_with fail
                refine (I2.out _ (hfj.trans Hf6.out)).mono ?_
                rintro e w7 ⟨rfl, hf7⟩
                have Hf7 := hide (hfj.trans (Hf6.out.trans hf7))
                clear hf7
                go_wp2_with fail
                go_roundw
                case rel => exact ⟨j + 1, by omega, by omega, by go_num, Hf7.out⟩
                case measure => simp [intOf]; omega
          · obtain rfl : j = 19 := by omega
            have e19 : ¬ (19 : Int) ≤ 18 := by omega
            have HN1 := hide (number_ev (H0.out.fr0 (H2.out.trans (H4.out.2.2.trans hfj))) (H4.out.2.1.fr0 hfj).ev (by simp) (k := i) (.inr ⟨by simp, hi1, hi18, by simp⟩))
            have HN2 := hide (fun W (hf : Fr [] w4 W) => number_ev (H0.out.fr0 (H2.out.trans (H4.out.2.2.trans hf))) (H4.out.1.fr0 hf) (by simp) (k := min i q) (.inr ⟨by simp only [nums, List.map_cons, List.map_nil, List.mem_cons, List.not_mem_nil, or_false]; omega, by omega, by omega, by simp only [nums, List.map_cons, List.map_nil, List.mem_cons, List.not_mem_nil, or_false]; omega⟩))
            have Hfj := hide hfj
            clear hfj
            have emin : ((min i q : Nat) : Int) = min (i : Int) (q : Int) := by omega
            go_wp2_with fail
            refine HN1.out.mono ?_
            rintro e w6 ⟨rfl, hf6⟩
            have Hf6 := hide (Hfj.out.trans hf6)
            clear hf6
            go_wp2_with fail
            refine (HN2.out _ Hf6.out).mono ?_
            rintro e w7 ⟨rfl, hf7⟩
            have Hf7 := hide (Hf6.out.trans hf7)
            clear hf7
            rw [emin]
            go_wp2_with fail
            go_roundw
            case rel => exact ⟨i + 1, by omega, by omega, by go_num, H4.out.2.2.trans Hf7.out⟩
            case measure => simp [intOf]; omega
      · obtain rfl : i = 19 := by omega
        have e19 : ¬ (19 : Int) ≤ 18 := by omega
        have HF := hide (H2.out.trans hf)
        have hn := eql_nil_nil
        clear hf
        go_wp2_with fail
        refine (of_none 0 (by omega)).mono ?_
        rintro e w3 ⟨rfl, rfl⟩
        go_wp2_with fail
        refine (of_none 19 (by omega)).mono ?_
        rintro e w3 ⟨rfl, rfl⟩
        go_wp2_with fail
        refine (number_ev (H0.out.fr0 HF.out) (v := .nilIface) (cs := []) (.inl ⟨rfl, rfl⟩) (by simp) (k := 0) (.inl ⟨rfl, rfl⟩)).mono ?_
        rintro e w4 ⟨rfl, hf4⟩
        have HF4 := hide (HF.out.trans hf4)
        clear hf4
        go_wp2_with fail
        refine (new_calls ⟨#[120]⟩).mono ?_
        rintro e w5 ⟨rfl, rfl⟩
        have hsz := HF4.out.size
        have HN := hide (number_new (w := w4.alloc (.cells #[.string ⟨#[120]⟩] 77)) (a := ⟨w4.heap.size, 0, none⟩) (H0.out.fr0 (HF4.out.alloc _)) (Blk.new _ _ _) hsz)
        go_wp2_with fail
        refine HN.out.mono ?_
        rintro e w6 ⟨rfl, rfl⟩
        go_wp2_with fail
        go_ret
        exact ⟨rfl, (HF4.out.alloc _).below (by simp) (Nat.le_refl _)⟩
end Go.Proofs.YtmjdnmpiheaidaaDoor

/- SchemaBack: the walk of the law. -/
import Derived.Test.YtiadeafibfkmeaaDoorBackPure
import Derived.Test.YtiadeafibfkmeaaDoorAwakeS
import Derived.Deep.QuietTactic
namespace Go.Proofs.YtiadeafibfkmeaaDoor
open Go.RowKit
theorem row_reads {w : World} {B n : Nat} {v : Value} {xs : List Value} (h : w.ownsRow B 3 1 v n xs) : ∃ A c, v = .slice A n c ∧ Reads w w.heap.size 1 A n xs := by
  have hl := row_len h
  rcases row_form h with ⟨rfl, rfl, rfl⟩ | ⟨g, cap, rfl, _, hg, _, _⟩
  · exact ⟨_, _, rfl, rfl, fun h => by omega⟩
  · exact ⟨_, _, rfl, hl, fun _ => ⟨g, 0, rfl, hg, fun j u hu => by rw [Nat.zero_add]; exact row_cell h hu⟩⟩
theorem Reads.one {w : World} {B n : Nat} {A : Option Addr} {xs : List Int} (h : Reads w B 1 A n (xs.flatMap encN)) (hl : xs.length = n) {i : Nat} {x : Int} (hx : xs[i]? = some x) : ∃ b off, A = some ⟨b, off, none⟩ ∧ b < B ∧ ∀ k y, xs[k]? = some y → w.cell? ⟨b, off + k, none⟩ = some (.int .i64 y) := by
  have hi := (List.getElem?_eq_some_iff.1 hx).1
  obtain ⟨b, off, e, hb, hc⟩ := h.2 (by omega)
  refine ⟨b, off, e, hb, fun k y hy => hc k _ ?_⟩
  have := flat_get (f := encN) (k := 1) encN_len hy 0 (by omega)
  rw [Nat.mul_one, Nat.add_zero] at this
  rw [this]; rfl
theorem ints_app (l : List Int) (x y : Int) : ints (l ++ [x, y]) = ints l ++ [.int .i64 x, .int .i64 y] := by simp [ints]
set_option maxRecDepth 100000 in
set_option maxHeartbeats 8000000 in
theorem back_walk {w : World} {ad : Nat → Addr} (hs : Sents All18 w.heap.size w ad) (hT : Tab w) (m : Nat) (hm : m < 4294967296) {A : Option Addr} {n c : Nat} {xs : List Int} (hr : Reads w w.heap.size 1 A n (xs.flatMap encN)) (hl : xs.length = n) (hnm : n ≤ maxLen) :
    Calls Tryd.prog 7 #[.int .u32 m, .slice A n c] w fun e w' => e = .returned (.bool true) ∧ Below w.heap.size w w' := by
  have HA := hide (awake_calls hs)
  have H0 := hide (And.intro hm (And.intro hr hl))
  have HT := hide hT
  have hn63 : (n : Int) ≤ 9223372036854775807 := by unfold maxLen at hnm; omega
  clear hs hm hr hl hT hnm
  go_enter Tryd.func7, Tryd.ntmps7
  go_wp2_with fail
  refine HA.out.mono ?_
  rintro e w1 ⟨rfl, hf1⟩
  have H1 := hide hf1
  clear hf1 HA
  by_cases h60 : 60 < n
  · have h60' : (60 : Int) < (n : Int) := by omega
    go_wp2_with fail
    go_ret
    exact ⟨rfl, H1.out.below (by simp) (Nat.le_refl _)⟩
  have h60' : ¬ (60 : Int) < (n : Int) := by omega
  clear hn63
  go_wp2_with fail
  refine (list_calls (HT.out.fr0 H1.out) m H0.out.1).mono ?_
  rintro e w2 ⟨v, rfl, hrow, hf2⟩
  obtain ⟨L, lc, rfl, hrd⟩ := row_reads hrow
  have hnl := bitsOf_len m
  obtain ⟨ln, hln⟩ : ∃ ln, ln = (bitsOf m).length := ⟨_, rfl⟩
  rw [← hln] at hrd hnl ⊢
  have hrd2 : Reads w2 w2.heap.size 1 L ln (((bitsOf m).map fun n : Nat => (n : Int)).flatMap encN) := by rw [← ints_flat]; exact hrd
  have H2 := hide (And.intro (H1.out.trans hf2) (And.intro hrd2 hln))
  clear hrow hf2 hrd hrd2 hln
  go_wp2_with fail
  have HB := hide (fun (a : Nat) W (h : hasN m a = true) => by have := hasA_calls m H0.out.1 a W; rw [h] at this; exact this)
  go_loopw [6] (fun s6 wr => ∃ i : Nat, i ≤ ln ∧ s6 = .int .i64 i ∧ Fr [] w2 wr) (fun s6 _ => ln - (intOf s6).toNat)
  case atStart => exact ⟨0, by omega, rfl, Fr.refl _ _⟩
  case round =>
    obtain ⟨i, hi, rfl, hf⟩ := hrel
    have i0 : (0 : Int) ≤ (i : Int) := by omega
    have Hf := hide hf
    by_cases hin : i < ln
    · have i1 : (i : Int) < (ln : Int) := by omega
      obtain ⟨a, ha⟩ : ∃ a, (bitsOf m)[i]? = some a := ⟨_, List.getElem?_eq_getElem (by rw [← H2.out.2.2]; exact hin)⟩
      obtain ⟨b, off, rfl, hb, hc⟩ := H2.out.2.1.one (by rw [List.length_map, ← H2.out.2.2]) (i := i) (x := a) (by rw [List.getElem?_map, ha]; rfl)
      have lb : b < wr.heap.size := Nat.lt_of_lt_of_le hb hf.size
      have a0 := (hf.cell (p := ⟨b, off + i, none⟩) hb (by simp)).trans (hc i a (by rw [List.getElem?_map, ha]; rfl))
      have HB1 := hide (fun W => HB.out a W (hasN_bits H0.out.1 ha))
      by_cases h0 : i = 0
      · subst h0
        clear hc ha hf hi h60
        rw [Nat.add_zero] at a0
        simp only [show ((0 : Nat) : Int) = 0 from rfl] at i0 i1 ⊢
        go_wp2_with fail
        go_quiet ((go_at_call 25; exact Calls.quiet_of_same ((HB1.out _).mono fun _ _ h => ⟨h.1, h.2.symm⟩)))
        go_wp2_with fail
        go_roundw
        case rel => exact ⟨1, by omega, rfl, Hf.out.drewN _⟩
        case measure => simp [intOf]; omega
      · obtain ⟨j, hj⟩ : ∃ j, i = j + 1 := ⟨i - 1, by omega⟩
        obtain ⟨p, hp⟩ : ∃ p, (bitsOf m)[j]? = some p := ⟨_, List.getElem?_eq_getElem (by rw [← H2.out.2.2]; omega)⟩
        have hlt := bits_rise hp (hj ▸ ha)
        have hlt' : (p : Int) < (a : Int) := by omega
        have b0 := (hf.cell (p := ⟨b, off + j, none⟩) hb (by simp)).trans (hc j p (by rw [List.getElem?_map, hp]; rfl))
        have hij : IntKind.i64.wrap ((i : Int) - 1) = (j : Int) := by rw [IntKind.wrap_i64]; omega
        have j0 : (0 : Int) ≤ (j : Int) := by omega
        have j1 : (j : Int) < (ln : Int) := by omega
        have ip : (0 : Int) < (i : Int) := by omega
        have ipd : decide (0 < i) = true := decide_eq_true (by omega)
        clear hc ha hf h60 hp hlt hj
        go_wp2_with fail
        go_quiet ((go_at_call 25; exact Calls.quiet_of_same ((HB1.out _).mono fun _ _ h => ⟨h.1, h.2.symm⟩)))
        go_wp2_with fail
        go_roundw
        case rel => exact ⟨i + 1, by omega, by go_num, Hf.out.drewN _⟩
        case measure => simp [intOf]; omega
    · have i1 : ¬ (i : Int) < (ln : Int) := by omega
      have hnn : (0 : Int) ≤ (n : Int) := by omega
      have hwn : IntKind.i64.wrap ((n : Int) - 1) = (n : Int) - 1 := by rw [IntKind.wrap_i64]; omega
      obtain ⟨q0, hq0, hz0, hz1, hz2⟩ := info_parts infoInt
      clear hf h60
      go_wp2_with fail
      go_loopw [7, 8, 9] (fun s7 s8 s9 wr2 => ∃ (j : Nat) (e : Int) (ys : List Int), j ≤ n ∧ e = (j : Int) - 1 ∧ ys = (xs.drop j).reverse ∧ s9 = .int .i64 e ∧ s8 = .int .u32 ((setN ys : Nat) : Int) ∧ wr2.ownsRow w2.heap.size 3 1 s7 (dup ys).length (ints (dup ys)) ∧ Fr [] w2 wr2) (fun _ _ s9 _ => (intOf s9 + 1).toNat)
      case atStart =>
        refine ⟨n, _, [], Nat.le_refl _, rfl, ?_, rfl, rfl, ?_, Hf.out.alloc _⟩
        · rw [List.drop_of_length_le (by rw [H0.out.2.2]; omega)]; rfl
        · exact row_mk (cur := #[]) (Blk.new _ _ _) Hf.out.size (Nat.le_refl _) (by unfold maxLen; omega) rfl rfl
      case round =>
        obtain ⟨j, e, ys, hj, he, hys, rfl, rfl, hrow, hf⟩ := hrel
        have hyl : ys.length = n - j := by rw [hys, List.length_reverse, List.length_drop, H0.out.2.2]
        have hdl := dup_len ys
        have hdn : (dup ys).length ≤ 120 := by omega
        by_cases hj0 : j = 0
        · have he0 : ¬ (0 : Int) ≤ e := by omega
          subst hj0
          rw [List.drop_zero] at hys
          have HE := hide (And.intro hys (And.intro hrow hf))
          have hrd := (H0.out.2.1.fr0 (H2.out.1.trans hf))
          have hy : setN xs = setN ys := setN_ext fun x => by rw [hys, List.mem_reverse]
          have hb : setN (dup ys) = setN ys := setN_ext (mem_dup ys)
          have HM := hide (fun (x : Int) W (h : x ∈ xs) => by have := hasA_calls (setN xs) (setN_lt xs) x W; rw [hasN_set h] at this; exact this)
          have HO := hide (setOf_calls (c := c) hrd H0.out.2.2 (by omega))
          rw [hy] at HM HO
          obtain ⟨bA, bc, rfl, hrb⟩ := row_reads hrow
          rw [ints_flat] at hrb
          have HE := hide (And.intro hrb (And.intro hf hb))
          generalize setN ys = y0 at *
          generalize hdl' : dup ys = ds at *
          obtain ⟨dn, hdnn⟩ : ∃ dn, dn = ds.length := ⟨_, rfl⟩
          have HD := hide (And.intro hdnn hdn)
          rw [← hdnn] at HE ⊢
          clear hrow hf he hys hyl hdl hj hrd hy hb hrb hdl' hdnn hdn
          go_wp2_with fail
          refine HO.out.mono ?_
          rintro e w' ⟨rfl, rfl⟩
          clear HO
          go_wp2_with fail
          have HC1 := hide (fun W => count_calls (w := W) m H0.out.1)
          rw [← H2.out.2.2] at HC1
          have HC2 := hide (fun W (hf : Fr [] wr W) => setOf_calls (c := lc) (H2.out.2.1.fr0 (HE.out.2.1.trans hf)) (by rw [List.length_map]; exact H2.out.2.2.symm) (by omega))
          rw [setN_bits H0.out.1] at HC2
          have HC3 := hide (fun W (hf : Fr [] wr W) => setOf_calls (c := bc) (HE.out.1.fr0 hf) HD.out.1.symm (by have := HD.out.2; rw [← HD.out.1] at this; omega))
          rw [HE.out.2.2] at HC3
          go_loopw [11] (fun s11 wr3 => ∃ i2 : Nat, i2 ≤ n ∧ s11 = .int .i64 i2 ∧ Fr [] wr wr3) (fun s11 _ => n - (intOf s11).toNat)
          case atStart => exact ⟨0, by omega, rfl, Fr.refl _ _⟩
          case round =>
            obtain ⟨i2, hi2, rfl, hf3⟩ := hrel
            have i20 : (0 : Int) ≤ (i2 : Int) := by omega
            have Hf3 := hide hf3
            by_cases hin2 : i2 < n
            · have i21 : (i2 : Int) < (n : Int) := by omega
              obtain ⟨x, hx⟩ : ∃ x, xs[i2]? = some x := ⟨_, List.getElem?_eq_getElem (by rw [H0.out.2.2]; exact hin2)⟩
              obtain ⟨b, off, rfl, hb, hc⟩ := H0.out.2.1.one H0.out.2.2 hx
              have hf0 := (H2.out.1.trans HE.out.2.1).trans hf3
              have a0 := (hf0.cell (p := ⟨b, off + i2, none⟩) hb (by simp)).trans (hc i2 x hx)
              have lb := Nat.lt_of_lt_of_le hb hf0.size
              have HM1 := hide (fun W => HM.out x W (List.mem_of_getElem? hx))
              clear hf3 hc hx hf0
              by_cases x0 : 0 ≤ x
              · by_cases x1 : x < 32
                · rw [decide_eq_true x0, decide_eq_true x1] at HM1
                  go_wp2_with fail
                  go_quiet ((go_at_call 25; exact Calls.quiet_of_same ((HM1.out _).mono fun _ _ h => ⟨h.1, h.2.symm⟩)))
                  go_wp2_with fail
                  go_roundw
                  case rel => exact ⟨i2 + 1, by omega, by go_num, Hf3.out.drewN _⟩
                  case measure => simp [intOf]; omega
                · rw [decide_eq_true x0, decide_eq_false x1] at HM1
                  go_wp2_with fail
                  go_quiet ((go_at_call 25; exact Calls.quiet_of_same ((HM1.out _).mono fun _ _ h => ⟨h.1, h.2.symm⟩)))
                  go_wp2_with fail
                  go_roundw
                  case rel => exact ⟨i2 + 1, by omega, by go_num, Hf3.out.drewN _⟩
                  case measure => simp [intOf]; omega
              · rw [decide_eq_false x0] at HM1
                have x0d : decide (0 ≤ x) = false := decide_eq_false x0
                go_wp2_with fail
                go_quiet ((go_at_call 25; exact Calls.quiet_of_same ((HM1.out _).mono fun _ _ h => ⟨h.1, h.2.symm⟩)))
                go_wp2_with fail
                go_roundw
                case rel => exact ⟨i2 + 1, by omega, by go_num, Hf3.out.drewN _⟩
                case measure => simp [intOf]; omega
            · have i21 : ¬ (i2 : Int) < (n : Int) := by omega
              clear hf3
              go_wp2_with fail
              refine (HC1.out _).mono ?_
              rintro e w4 ⟨rfl, hf4⟩
              have H4 := hide (Hf3.out.trans hf4)
              clear hf4
              go_wp2_with fail
              refine (HC2.out _ H4.out).mono ?_
              rintro e w' ⟨rfl, rfl⟩
              go_wp2_with fail
              refine (HC3.out _ H4.out).mono ?_
              rintro e w' ⟨rfl, rfl⟩
              go_wp2_with fail
              go_ret
              exact ⟨rfl, (((H2.out.1.trans HE.out.2.1).trans H4.out)).below (by simp) (Nat.le_refl _)⟩
        · obtain ⟨k, hk⟩ : ∃ k, j = k + 1 := ⟨j - 1, by omega⟩
          obtain rfl : e = (k : Int) := by omega
          obtain ⟨x, hx⟩ : ∃ x, xs[k]? = some x := ⟨_, List.getElem?_eq_getElem (by rw [H0.out.2.2]; omega)⟩
          have hys2 := drop_rev hx
          rw [← hk, ← hys] at hys2
          obtain ⟨b, off, rfl, hb, hc⟩ := H0.out.2.1.one H0.out.2.2 hx
          have b2 : b < w2.heap.size := Nat.lt_of_lt_of_le hb H2.out.1.size
          have a2 := (H2.out.1.cell (p := ⟨b, off + k, none⟩) hb (by simp)).trans (hc k x hx)
          have a0 := (hf.cell (p := ⟨b, off + k, none⟩) b2 (by simp)).trans a2
          have lb := Nat.lt_of_lt_of_le b2 hf.size
          have k0 : (0 : Int) ≤ (k : Int) := by omega
          have k1 : (k : Int) < (n : Int) := by omega
          have HW := hide (fun W => withA_calls (setN ys) (setN_lt ys) x W)
          have HE := hide (And.intro hrow (And.intro hf (And.intro hys2 a2)))
          have hsz := hf.size
          generalize hy0 : setN ys = y0 at *
          have HY := hide hy0
          clear hrow hf he hys hyl hdl hys2 hk hj hc a2 hj0 hy0
          go_wp2_with fail
          go_region_law (first | (refine step_append_lies _ (by rfl) _ _ _ (by rfl) w2.heap.size 3 q0 _ 1 8 Tryd.underlying64 hq0 hz0 hz1 hz2 rfl (by omega) u7 (dup ys).length (ints (dup ys)) (by rfl) ((HE.out.1.alloc _).drew) ⟨wr.heap.size, 0, none⟩ 2 2 [.int .i64 x, .int .i64 x] (by rfl) (by rfl) (World.news_of_block (cs := #[.int .i64 x, .int .i64 x]) (t := 3) (fr := (0, 0)) (Blk.new wr 3 #[.int .i64 x, .int .i64 x]).drew) (by simp [Value.oneCell']) (by omega) (by unfold maxLen; omega) (by omega) (by simp; omega) (wr.heap.size + 1) (by simp) ?_; intro g7 c7 w3 hown3 hgrow3 hat3 hlt3; have H3 := hide (And.intro hown3 ((HE.out.2.1.alloc _).drew.grown hgrow3 (fun b hb => .inr (row_lt HE.out.1 hb).2))); clear hown3 hgrow3 hat3 hlt3; go_wp2_with fail))
          all_goals
            have a3 := (H3.out.2.cell (p := ⟨b, off + k, none⟩) b2 (by simp)).trans HE.out.2.2.2
            have lb3 := Nat.lt_of_lt_of_le b2 H3.out.2.size
            clear a0 lb
            go_wp2_with fail
            refine (HW.out _).mono ?_
            rintro e w' ⟨rfl, rfl⟩
            go_wp2_with fail
            go_roundw
            case rel =>
              refine ⟨k, (k : Int) - 1, ys ++ [x], by omega, rfl, HE.out.2.2.1.symm, by go_num, by rw [setN_app, HY.out], ?_, H3.out.2⟩
              rw [dup_app, ints_app, List.length_append]
              exact H3.out.1
            case measure => simp [intOf]
end Go.Proofs.YtiadeafibfkmeaaDoor

/- GoodsBack: the walk of the law. -/
import Derived.Test.YtnncbmbepdkfnaaDoorLawStays
import Derived.Test.YtnncbmbepdkfnaaDoorGoods4
import Derived.Deep.QuietTactic
namespace Go.Proofs.YtnncbmbepdkfnaaDoor
open Go.RowKit
theorem vsN_len : vsN.length = 8 := by rfl
theorem row_sl {w : World} {B n : Nat} {v : Value} {xs : List Value} (h : w.ownsRow B 3 1 v n xs) (hn : 0 < n) : ∃ g c, v = .slice (some ⟨g, 0, none⟩) n c ∧ B ≤ g ∧ g < w.heap.size := by
  rcases row_form h with ⟨_, h0, _⟩ | ⟨g, cap, rfl, h1, h2, _⟩
  · omega
  · exact ⟨_, _, rfl, h1, h2⟩
theorem ints_at {vs : List Int} {i : Nat} {x : Int} (h : vs[i]? = some x) : (ints vs)[i]? = some (.int .i64 x) := by unfold ints; rw [List.getElem?_map, h]; rfl
set_option maxRecDepth 100000 in
set_option maxHeartbeats 8000000 in
theorem gback_walk {w : World} {ad : Nat → Addr} {K : List Nat} (hK : K5 K) (m7 : 7 ∈ K) (m2 : 2 ∈ K) (hs : Sents K w.heap.size w ad) {A : Option Addr} {n c : Nat} {acts : List Ag} (hl : acts.length = n) (hn : n ≤ maxLen) (hr : Reads w w.heap.size 4 A n (acts.flatMap encA)) :
    Calls Tryd.prog 4 #[.slice A n c] w fun e w' => e = .returned (.bool true) ∧ Below w.heap.size w w' := by
  have HA := hide (awakeG_calls hK m7 hs)
  have H0 := hide (And.intro hs (And.intro hl hr))
  have n2 : ∀ (W : World), (binOp .neq 26 .nilIface .nilIface).run Tryd.prog W = .ok (.bool false) W := fun W => by kernel_rfl
  have hn63 : (n : Int) ≤ 9223372036854775807 := by unfold maxLen at hn; omega
  clear hs hl hr hn
  go_enter Tryd.func4, Tryd.ntmps4
  go_wp2_with fail
  refine HA.out.mono ?_
  rintro e w1 ⟨rfl, hf1⟩
  have H1 := hide hf1
  clear hf1 HA
  go_wp2_with fail
  refine names_calls.mono ?_
  rintro e w2 ⟨A2, c2, rfl, hok, hf2⟩
  have H2 := hide (H1.out.trans hf2)
  have HN := hide (newG_calls hK ((H0.out.1.fr0 H2.out).rebase) hok)
  rw [show (saN A2 c2).val = .agg #[.slice none 0 0, .slice A2 8 c2] from rfl] at HN ⊢
  clear hok hf2
  go_wp2_with fail
  refine HN.out.mono ?_
  rintro e w3 ⟨pv, ev, rfl, hp, hf3⟩
  have H3 := hide (H2.out.trans hf3)
  unfold NewPost at hp
  rw [saN_fl, saN_ns, saN_vs] at hp
  rcases hp with ⟨h, -⟩ | ⟨-, rfl, g, S, rfl, hg⟩
  · exact absurd rfl h
  have hgr : GR w.heap.size w3 g nsN vsN 0 S := hg.up H2.out.size
  have HG := hide hgr
  clear hg hf3 hgr HN
  go_wp2_with fail
  refine (all_calls2 HG.out (by rw [vsN_len]; omega)).mono ?_
  rintro e w4 ⟨v, rfl, hrow, hf4⟩
  rw [vsN_len] at hrow
  obtain ⟨gw, cw, rfl, hgw, lgw⟩ := row_sl hrow (by omega)
  have hgS : gw ∉ S := fun hm => by have := (HG.out.ge _ hm).2; omega
  have hgww : w.heap.size ≤ gw := Nat.le_trans H3.out.size hgw
  have HR := hide (And.intro hgS (And.intro hgww hgw))
  have H4 := hide (And.intro (HG.out.fr0 hf4) (And.intro hrow (H3.out.trans hf4)))
  obtain ⟨B3, hB3⟩ : ∃ B3, B3 = w3.heap.size := ⟨_, rfl⟩
  rw [← hB3] at H4 HR
  clear hrow hf4 hgS hgww hgw lgw HG hB3
  go_wp2_with fail
  go_loopw [6] (fun s6 wr => ∃ (i : Nat) (vs : List Int), i ≤ n ∧ i ≤ 100 ∧ vs.length = 8 ∧ s6 = .int .i64 i ∧ GR w.heap.size wr g nsN vs i S ∧ wr.ownsRow B3 3 1 (.slice (some ⟨gw, 0, none⟩) 8 cw) 8 (ints vsN) ∧ Fr [] w wr) (fun s6 _ => n - (intOf s6).toNat)
  case atStart => exact ⟨0, vsN, by omega, by omega, rfl, rfl, H4.out.1, H4.out.2.1, H4.out.2.2⟩
  case round =>
    clear H4
    obtain ⟨i, vs, hi, hi100, hvl, rfl, hgr, hrow, hf⟩ := hrel
    have j0 : (0 : Int) ≤ (i : Int) := by omega
    by_cases hin : i < n ∧ i < 100
    · obtain ⟨hin, hin100⟩ := hin
      have j1 : (i : Int) < (n : Int) := by omega
      have j2 : (i : Int) < 100 := by omega
      obtain ⟨a, ha⟩ : ∃ a, acts[i]? = some a := ⟨_, List.getElem?_eq_getElem (by rw [H0.out.2.1]; exact hin)⟩
      obtain ⟨b, off, rfl, hb, hcl⟩ := H0.out.2.2.at_ encA_len ha H0.out.2.1
      have a1 := (hf.cell (p := ⟨b, off + (i * 4 + 1), none⟩) hb (by simp)).trans (hcl 1 (.int .i64 a.i) rfl)
      have a2 := (hf.cell (p := ⟨b, off + (i * 4 + 2), none⟩) hb (by simp)).trans (hcl 2 (.int .i64 a.n) rfl)
      rw [← Nat.add_assoc] at a1 a2
      have lb := Nat.lt_of_lt_of_le hb hf.size
      obtain ⟨u, hu, hu2⟩ := u64_nat a.i
      obtain ⟨k, hk⟩ : ∃ k, k = u % 8 := ⟨_, rfl⟩
      have hk8 : k < 8 := by omega
      have hk1 : (u : Int) % 8 = (k : Int) := by omega
      have hk2 : (u : Int).tmod 8 = (k : Int) := by rw [Int.tmod_eq_emod_of_nonneg (by omega)]; omega
      have k0 : (0 : Int) ≤ (k : Int) := by omega
      have k1 : (k : Int) < 8 := by omega
      have wk : IntKind.u64.wrap (k : Int) = (k : Int) := by rw [IntKind.wrap_u64]; omega
      have wk' : IntKind.i64.wrap (k : Int) = (k : Int) := by rw [IntKind.wrap_i64]; omega
      obtain ⟨x, hx⟩ : ∃ x, vs[k]? = some x := ⟨_, List.getElem?_eq_getElem (by omega)⟩
      have HS := hide (fun W (hf : Fr [] wr W) => add_in (hgr.fr0 hf) (by omega) hx a.n (by omega) (by omega))
      have H := hide (And.intro hgr (And.intro hrow (And.intro hf hvl)))
      clear hgr hrow hf hx hcl ha hk hu2 hvl
      go_wp2_with fail
      go_region_law (first | (refine step_open (by rfl) ?_; go_wp2_with fail; go_at_call 14; refine (HS.out _ (show Fr [] wr _ by (repeat (first | exact Fr.refl _ _ | apply Fr.drew | apply Fr.drewN | apply Fr.alloc | (refine Fr.setCell ?_ (by first | (left; simp [Value.ownBlock]; done) | (right; simp; omega) | (right; simp; done)) _))))).mono ?_; rintro e w5 ⟨rfl, hg5, hf5⟩; have H5 := hide (And.intro hg5 ((show Fr [] wr _ by (repeat (first | exact Fr.refl _ _ | apply Fr.drew | apply Fr.drewN | apply Fr.alloc | (refine Fr.setCell ?_ (by first | (left; simp [Value.ownBlock]; done) | (right; simp; omega) | (right; simp; done)) _))) : Fr [] wr _).any S |>.step hf5 (fun x hx => .inl hx))); clear hg5 hf5; go_wp2_with fail))
      all_goals
        go_wp2_with fail
        go_roundw
        case rel =>
          refine ⟨i + 1, _, by omega, by omega, ?_, by go_num, H5.out.1, row_fr H.out.2.1 H5.out.2 (fun q hq hm => HR.out.1 ?_), H.out.1.step H.out.2.2.1 (Nat.le_refl _) H5.out.2⟩
          · rw [List.length_set]; exact H.out.2.2.2
          · have : gw = q := by simpa [Value.ownBlock] using hq
            exact this ▸ hm
        case measure => simp [intOf]; omega
    · have ways : ¬ (i : Int) < (n : Int) ∨ ((i : Int) < (n : Int) ∧ ¬ (i : Int) < 100) := by omega
      have HC := hide (fun W (hf : Fr [] wr W) => changes_calls (hgr.fr0 hf))
      have HAl := hide (all_calls2 hgr (by omega))
      rw [hvl] at HAl
      have H := hide (And.intro hgr (And.intro hrow (And.intro hf hvl)))
      clear hgr hrow hf hvl hin hi
      rcases ways with hw1 | ⟨hw1, hw2⟩
      all_goals
        go_wp2_with fail
        refine HAl.out.mono ?_
        rintro e w5 ⟨v5, rfl, hr5, hf5⟩
        obtain ⟨g5, c5, rfl, -, lg5⟩ := row_sl hr5 (by omega)
        have H5 := hide (And.intro hr5 hf5)
        clear hr5 hf5
        go_wp2_with fail
        refine (HC.out _ H5.out.2).mono ?_
        rintro e w' ⟨rfl, rfl⟩
        have HRw := hide (row_fr H.out.2.1 H5.out.2 (by simp))
        go_wp2_with fail
        go_loopw [9, 10] (fun s9 s10 wq => ∃ j : Nat, j ≤ 8 ∧ s10 = .int .i64 j ∧ s9 = .int .i64 (dif vsN vs j : Nat) ∧ Fr [] w5 wq) (fun _ s10 _ => 8 - (intOf s10).toNat)
        case atStart => exact ⟨0, by omega, rfl, rfl, Fr.refl _ _⟩
        case round =>
          obtain ⟨j, hj, rfl, rfl, hfq⟩ := hrel
          have d8 := dif_le vsN vs j
          have k0 : (0 : Int) ≤ (j : Int) := by omega
          by_cases hj8 : j < 8
          · have k1 : (j : Int) < 8 := by omega
            obtain ⟨x, hx⟩ : ∃ x, vsN[j]? = some x := ⟨_, List.getElem?_eq_getElem (by rw [vsN_len]; exact hj8)⟩
            obtain ⟨y, hy⟩ : ∃ y, vs[j]? = some y := ⟨_, List.getElem?_eq_getElem (by rw [H.out.2.2.2]; exact hj8)⟩
            have hrw := row_fr HRw.out hfq (by simp)
            have hr5 := row_fr H5.out.1 hfq (by simp)
            have cx := row_cell hrw (ints_at hx)
            have cy := row_cell hr5 (ints_at hy)
            have lw := (row_lt hrw (k := gw) rfl).1
            have l5 := (row_lt hr5 (k := g5) rfl).1
            have hd := dif_succ vsN vs j
            have Hfq := hide hfq
            by_cases hxy : x = y
            · subst hxy
              rw [if_neg (by rw [hx, hy]; simp), Nat.add_zero] at hd
              have Hd := hide hd
              clear hrw hr5 hx hy hfq hd
              go_wp2_with fail
              go_quiet (fail)
              go_wp2_with fail
              go_roundw
              case rel => exact ⟨j + 1, by omega, by go_num, by rw [Hd.out]; rfl, Hfq.out.drewN _⟩
              case measure => simp [intOf]; omega
            · rw [if_pos (by rw [hx, hy]; simpa using hxy)] at hd
              have hb : (y == x) = false := by simpa using fun e => hxy e.symm
              have hb2 : (y != x) = true := by simpa using fun e => hxy e.symm
              have Hd := hide hd
              clear hrw hr5 hx hy hfq hd
              generalize hdd : dif vsN vs j = dd at *
              have Hdd := hide hdd
              clear hdd
              go_wp2_with fail
              go_quiet (fail)
              go_wp2_with fail
              go_roundw
              case rel => exact ⟨j + 1, by omega, by go_num, by rw [Hd.out]; go_num, Hfq.out.drewN _⟩
              case measure => simp [intOf]; omega
          · obtain rfl : j = 8 := by omega
            have hgq := (H.out.1.fr0 H5.out.2).fr0 hfq
            have hrq := row_fr HRw.out hfq (by simp)
            have hfw := (H.out.2.2.1.trans H5.out.2).trans hfq
            have hsS : ∀ q, (Value.slice (some ⟨gw, 0, none⟩) 8 cw).ownBlock = some q → q ∉ S := fun q hq hm => HR.out.1 (by
              have : gw = q := by simpa [Value.ownBlock] using hq
              exact this ▸ hm)
            have HP := hide (put_in (xs := vsN) (A := some ⟨gw, 0, none⟩) (c := cw) hgq (by rw [H.out.2.2.2]; omega) (by rw [vsN_len, H.out.2.2.2]) (by omega) (by omega) (fun W hW q y hy => ⟨gw, 0, rfl, (row_lt (row_fr hrq hW hsS) (k := gw) rfl).1, by rw [Nat.zero_add]; exact row_cell (row_fr hrq hW hsS) (ints_at hy)⟩))
            rw [H.out.2.2.2] at HP
            have HQ := hide (And.intro hrq (And.intro hfw (And.intro hsS hgq)))
            clear hgq hrq hfw hsS hfq HAl
            generalize dif vsN vs 8 = dd at *
            go_wp2_with fail
            refine HP.out.mono ?_
            rintro e w6 ⟨rfl, hg6, hf6⟩
            have hr6 := row_fr HQ.out.1 hf6 HQ.out.2.2.1
            have hfw6 := HQ.out.2.2.2.step HQ.out.2.1 (Nat.le_refl _) hf6
            have HX := hide (And.intro hg6 (And.intro hr6 hfw6))
            clear hg6 hf6 hr6 hfw6 HP
            go_wp2_with fail
            refine (all_calls2 HX.out.1 (by rw [vsN_len]; omega)).mono ?_
            rintro e w7 ⟨v7, rfl, hr7, hf7⟩
            have HY := hide (And.intro (HX.out.1.fr0 hf7) (And.intro (row_fr HX.out.2.1 hf7 (by simp)) (And.intro (HX.out.2.2.trans hf7) hr7)))
            clear hr7 hf7
            go_wp2_with fail
            refine (same_calls (xs := vsN) (ys := vsN) HY.out.2.2.2 HY.out.2.1 (by rw [vsN_len]; omega) (by rw [vsN_len]; omega)).mono ?_
            rw [decide_eq_true rfl]
            rintro e w8 ⟨rfl, hf8⟩
            have HZ := hide (And.intro (HY.out.1.fr0 hf8) (And.intro (row_fr HY.out.2.1 hf8 (by simp)) (HY.out.2.2.1.trans hf8)))
            clear hf8
            go_wp2_with fail
            refine (changes_calls HZ.out.1).mono ?_
            rintro e w' ⟨rfl, rfl⟩
            go_wp2_with fail
            refine (all_calls2 HZ.out.1 (by rw [vsN_len]; omega)).mono ?_
            rintro e w9 ⟨v9, rfl, hr9, hf9⟩
            rw [vsN_len] at hr9
            obtain ⟨gL, cL, rfl, hgL, lgL⟩ := row_sl hr9 (by omega)
            have hLS : gL ∉ S := fun hm => by have := (HZ.out.1.ge _ hm).2; omega
            have hLw : gL ≠ gw := by have := (row_lt HZ.out.2.1 (k := gw) rfl).1; omega
            have hLww : w.heap.size ≤ gL := Nat.le_trans HZ.out.2.2.size hgL
            have x0 := row_cell hr9 (ints_at (i := 0) (x := 0) rfl)
            obtain ⟨cur, hcur, -⟩ := row_blk hr9
            have f0 := hcur.frozen 0
            have HU := hide (And.intro (HZ.out.1.fr0 hf9) (And.intro (row_fr HZ.out.2.1 hf9 (by simp)) (And.intro (HZ.out.2.2.trans hf9) (And.intro hLS (And.intro hLw hLww)))))
            clear hr9 hf9 hcur cur hLS hLw hLww hgL
            go_wp2_with fail
            have hfs : Fr [gL] w9 (w9.setCell ⟨gL, 0, none⟩ (.int .i64 1)) := (Fr.refl _ w9).setCell (p := ⟨gL, 0, none⟩) (.inl (by simp)) _
            have hg10 := HU.out.1.fr hfs (fun b hb hm => HU.out.2.2.2.1 (by rw [List.mem_singleton] at hm; exact hm ▸ hb))
            have hr10 := row_far HU.out.2.1 (p := ⟨gL, 0, none⟩) (by have := HU.out.2.2.2.2.1; simp [Value.ownBlock]; exact fun e => this e.symm) (.int .i64 1)
            have hf10 : Fr [] w (w9.setCell ⟨gL, 0, none⟩ (.int .i64 1)) := HU.out.2.2.1.setCell (p := ⟨gL, 0, none⟩) (.inr HU.out.2.2.2.2.2) _
            generalize w9.setCell ⟨gL, 0, none⟩ (.int .i64 1) = w10 at *
            have HV := hide (fun W (hf : Fr [] w10 W) => And.intro (hg10.fr0 hf) (And.intro (row_fr hr10 hf (by simp)) (And.intro (H0.out.1.fr0 (hf10.trans hf)) (hf10.trans hf))))
            clear hfs hg10 hr10 hf10 x0 f0 lgL
            refine (set_nil m2 (HV.out _ (Fr.refl _ _)).2.2.1 0).mono ?_
            rintro e w11 ⟨x1, rfl, hx1, hf11⟩
            have H11 := hide (And.intro hx1 hf11)
            clear hx1 hf11
            go_wp2_with fail
            refine (add_nil m2 (HV.out _ H11.out.2).2.2.1).mono ?_
            rintro e w12 ⟨x2, rfl, hx2, hf12⟩
            have H12 := hide (And.intro hx2 (And.intro (H11.out.1.fr0 hf12) (H11.out.2.trans hf12)))
            clear hx2 hf12
            go_wp2_with fail
            refine get_nil.mono ?_
            rintro e w' ⟨rfl, rfl⟩
            go_wp2_with fail
            refine (named_nil _).mono ?_
            rintro e w' ⟨rfl, rfl⟩
            go_wp2_with fail
            have HK2 : Hid (∀ W, Fr [] w10 W → W.cell? ⟨0, 0, none⟩ = some (sv (ad 2))) := hide fun W hf => (HV.out W hf).2.2.1.cell 2 m2
            have hq0 := HK2.out _ H12.out.2.2
            have hq : w12.drew.cell? ⟨0, 0, none⟩ = some (sv (ad 2)) := hq0
            have lN := (HV.out _ H12.out.2.2).2.2.1.glob 2 m2
            have HW := hide (fun W (hf : Fr [] w12 W) => HV.out W (H12.out.2.2.trans hf))
            have HKW := hide (fun W (hf : Fr [] w12 W) => HK2.out W (H12.out.2.2.trans hf))
            have HI1 := hide (fun W (hf : Fr [] w12 W) => is_hc ((HW.out _ hf).2.2.1) m2 (H12.out.2.1.fr0 hf) m2)
            have HI2 := hide (fun W (hf : Fr [] w12 W) => is_hc ((HW.out _ hf).2.2.1) m2 (H12.out.1.fr0 hf) m2)
            rw [decide_eq_true rfl] at HI1 HI2
            clear hq0
            go_region_held3 (fun w' => w'.cell? ⟨0, 0, none⟩ = some (sv (ad 2))) (first | exact hq | with_reducible assumption)
              (first
                | (go_at_call 13; with_reducible refine (all_calls2 (HW.out _ (show Fr [] w12 _ by (repeat (first | exact Fr.refl _ _ | apply Fr.drew | apply Fr.drewN | apply Fr.alloc | (refine Fr.setCell ?_ (by first | (left; simp [Value.ownBlock]; done) | (right; simp; omega) | (right; simp; done)) _))))).1 (by rw [vsN_len]; omega)).mono ?_; rintro e y1 ⟨v1, rfl, hr1, hf⟩; have Y1 := hide (And.intro hr1 ((show Fr [] w12 _ by (repeat (first | exact Fr.refl _ _ | apply Fr.drew | apply Fr.drewN | apply Fr.alloc | (refine Fr.setCell ?_ (by first | (left; simp [Value.ownBlock]; done) | (right; simp; omega) | (right; simp; done)) _)))).trans hf)); have K1 := HKW.out _ Y1.out.2; clear hf hr1)
                | (go_at_call 16; with_reducible refine (same_calls (xs := vsN) (ys := vsN) Y1.out.1 (HW.out _ Y1.out.2).2.1 (by rw [vsN_len]; omega) (by rw [vsN_len]; omega)).mono ?_; rw [decide_eq_true rfl]; rintro e y2 ⟨rfl, hf⟩; have Y2 := hide (Y1.out.2.trans hf); have K2 := HKW.out _ Y2.out; clear hf)
                | (go_at_call 17; with_reducible refine (HI1.out _ Y2.out).mono ?_; rintro e y3 ⟨rfl, hf⟩; have Y3 := hide (Y2.out.trans hf); have K3 := HKW.out _ Y3.out; clear hf)
                | (go_at_call 17; with_reducible refine (HI2.out _ Y3.out).mono ?_; rintro e y4 ⟨rfl, hf⟩; have Y4 := hide (Y3.out.trans hf); have K4 := HKW.out _ Y4.out; clear hf)
                | (go_at_call 15; with_reducible refine (put_nil m2 (HW.out _ Y4.out).2.2.1).mono ?_; rintro e y5 ⟨x3, rfl, hx3, hf⟩; have Y5 := hide (Y4.out.trans hf); have K5 := HKW.out _ Y5.out; have HI3 := hide (is_hc (HW.out _ Y5.out).2.2.1 m2 hx3 m2); rw [decide_eq_true rfl] at HI3; clear hf hx3)
                | (go_at_call 17; with_reducible refine HI3.out.mono ?_; rintro e y6 ⟨rfl, hf⟩; have Y6 := hide (Y5.out.trans hf); have K6 := HKW.out _ Y6.out; clear hf)
                | (go_at_call 18; with_reducible refine len_nil.mono ?_; rintro e y7 ⟨rfl, rfl⟩)
                | (go_at_call 12; with_reducible refine changes_nil.mono ?_; rintro e y7 ⟨rfl, rfl⟩)
                | (go_at_call 13; with_reducible refine all_nil.mono ?_; rintro e y7 ⟨rfl, rfl⟩))
            go_wp2_with fail
            go_ret
            exact ⟨rfl, (HW.out _ Y6.out).2.2.2.below (by simp) (Nat.le_refl _)⟩
end Go.Proofs.YtnncbmbepdkfnaaDoor

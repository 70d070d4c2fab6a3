/- JournalStacks: the walk of the law. -/
import Derived.Test.YtioeafjlbdpjoaaDoorStackW
import Derived.Test.YtioeafjlbdpjoaaDoorSameU
namespace Go.Proofs.YtioeafjlbdpjoaaDoor
open Go.RowKit
theorem OutV.lr2 {B : Nat} {w : World} {A : Option Addr} {n c : Nat} {us : List Un} (h : OutV B w (.slice A n c) us) : ∃ ds : List Ud, ds.map (·.u) = us ∧ LR w A ds := by
  obtain ⟨A', c', ds, h1, h2, h3⟩ := h.lr
  injection h1 with h1 _ _
  subst h1
  exact ⟨ds, h2, h3⟩
theorem alike_out {B1 B2 : Nat} {w : World} {A1 A2 : Option Addr} {n1 n2 c1 c2 : Nat} {us : List Un} (h1 : OutV B1 w (.slice A1 n1 c1) us) (h2 : OutV B2 w (.slice A2 n2 c2) us) (e1 : us.length = n1) (e2 : us.length = n2) (hn : us.length ≤ 1000000) :
    Calls Tryd.prog 13 #[.slice A1 n1 c1, .slice A2 n2 c2] w fun e w' => e = .returned (.bool true) ∧ Fr [] w w' := by
  obtain ⟨d1, k1, l1⟩ := h1.lr2
  obtain ⟨d2, k2, l2⟩ := h2.lr2
  have m1 : d1.length = us.length := by rw [← k1, List.length_map]
  have m2 : d2.length = us.length := by rw [← k2, List.length_map]
  have h := alike_calls (c1 := c1) (c2 := c2) l1 l2 (by rw [k1, k2]) (by omega)
  rw [m1] at h
  rw [← e1, ← e2]
  exact h
set_option maxRecDepth 100000 in
set_option maxHeartbeats 8000000 in
theorem stacks_walk {w : World} {ad : Nat → Addr} {K : List Nat} (hK : KJ K) (hs : Sents K w.heap.size w ad) {A : Option Addr} {n c : Nat} {l : List Int} (hl : l.length = n) (hn : n ≤ maxLen) (hr : Reads w w.heap.size 1 A n (l.flatMap encI)) (tt : Int) :
    Calls Tryd.prog 3 #[.slice A n c, .int .i64 tt] w fun e w' => e = .returned (.bool true) ∧ Below w.heap.size w w' := by
  have HA := hide (awake_calls hK hs)
  obtain ⟨i9, hi9, hz9, hs9, hb9⟩ := info_parts infoIntJ
  have H0 := hide (And.intro hs (And.intro hl hr))
  have n1 : ∀ (W : World), (binOp .neq 26 .nilIface .nilIface).run Tryd.prog W = .ok (.bool false) W := fun W => by kernel_rfl
  have n2 : ∀ (W : World), (binOp .eql 26 .nilIface .nilIface).run Tryd.prog W = .ok (.bool true) W := fun W => by kernel_rfl
  have hn63 : (n : Int) ≤ 9223372036854775807 := by unfold maxLen at hn; omega
  clear hs hl hr hn
  go_enter Tryd.func3, Tryd.ntmps3
  go_wp2_with fail
  refine HA.out.mono ?_
  rintro e w1 ⟨rfl, hf1⟩
  have H1 := hide hf1
  clear hf1 HA
  go_wp2_with fail
  refine (new_calls (most := 1024) (by omega) (by omega)).mono ?_
  rintro e w2 ⟨g, rfl, ⟨S2, hj⟩, hf⟩
  have hj2 := hj.up H1.out.size
  have H2 := hide (And.intro hj2 (H1.out.trans hf))
  clear hj hj2 hf H1
  by_cases hc : n = 0
  · subst hc
    go_wp2_with fail
    go_ret
    exact ⟨rfl, H2.out.2.below (by simp) (Nat.le_refl _)⟩
  have j0 : ((n : Int) == 0) = false := by simpa using hc
  by_cases hc2 : 20 < n
  · have j1 : (20 : Int) < (n : Int) := by omega
    go_wp2_with fail
    go_ret
    exact ⟨rfl, H2.out.2.below (by simp) (Nat.le_refl _)⟩
  have j1 : decide ((20 : Int) < (n : Int)) = false := by simp; omega
  go_wp2_with fail
  obtain ⟨cs, hcs⟩ : ∃ cs, cs = l.map cnt := ⟨_, rfl⟩
  have HC := hide (And.intro (show cs.length = n by rw [hcs, List.length_map]; exact H0.out.2.1) (And.intro (show ∀ x ∈ cs, x ≤ 20 by rw [hcs]; exact cnts_le) (show ∀ (i : Nat) x, l[i]? = some x → cs[i]? = some (cnt x) by intro i x h; rw [hcs, List.getElem?_map, h]; rfl)))
  clear hcs
  have H3 : Hid (SW w g cs 0 (.slice (some ⟨w2.heap.size, 0, none⟩) 0 0) (shs 10 cs 0) ((baseC cs 0 : Nat) : Int) S2 (w2.alloc (.cells #[] 3))) := hide ⟨H2.out.1.fr0 ((Fr.refl _ _).alloc _), row_mk (base := w.heap.size) (n := 0) (cap := 0) (size := 1) (xs := []) (Blk.new w2 3 #[]) H2.out.2.size (Nat.le_refl _) (by simp [maxLen]) rfl rfl, fun b hb hm => by simp [Value.ownBlock] at hb; have := (H2.out.1.ge b hm).2; omega, H2.out.2.alloc _⟩
  clear H2
  generalize w2.alloc (.cells #[] 3) = w3 at *
  go_loopw [7, 8, 9] (fun s7 s8 s9 wr => ∃ (i : Nat) (S : List Nat), i ≤ n ∧ s7 = .int .i64 ((baseC cs i : Nat) : Int) ∧ s9 = .int .i64 i ∧ SW w g cs i s8 (shs 10 cs i) ((baseC cs i : Nat) : Int) S wr) (fun _ _ s9 _ => n - (intOf s9).toNat)
  case atStart => exact ⟨0, S2, by omega, by rw [base_zero]; rfl, rfl, H3.out⟩
  case round =>
    clear H3
    obtain ⟨i, S, hi, rfl, rfl, hw⟩ := hrel
    have HW := hide hw
    clear hw
    have i0 : (0 : Int) ≤ (i : Int) := by omega
    have hbi : baseC cs i ≤ 20 * i := base_le HC.out.2.1 i
    by_cases hin : i < n
    · have i1 : (i : Int) < (n : Int) := by omega
      have hmul : IntKind.i64.wrap (10 * (i : Int)) = ((10 * i : Nat) : Int) := by rw [IntKind.wrap_i64]; omega
      have HM := hide (mark_calls HW.out.jr HW.out.fr.size (by rw [shs_len]; omega) (mark_shs (d := 10) (by omega) cs (by omega : i ≤ 20)))
      obtain ⟨x, hx⟩ : ∃ x, l[i]? = some x := ⟨_, List.getElem?_eq_getElem (by rw [H0.out.2.1]; exact hin)⟩
      obtain ⟨b, off, rfl, hb, hcl⟩ := H0.out.2.2.at_ encI_len hx H0.out.2.1
      have hcx := HC.out.2.2 i x hx
      have Hcl := hide (And.intro hb (show w.cell? ⟨b, off + i, none⟩ = some (.int .i64 x) by have := hcl 0 (.int .i64 x) rfl; rwa [Nat.mul_one, Nat.add_zero] at this))
      clear hcl hb hx
      go_wp2_with fail
      refine HM.out.mono ?_
      rintro e w4 ⟨rfl, S4, hj, hst⟩
      have H4 := hide (HW.out.stp hj hst)
      clear hj hst HM HW
      have hb4 := H4.out.fr.size
      go_wp2_with (at_builtin; refine wpList_append_lies _ rfl _ _ _ rfl w.heap.size 3 i9 _ 1 8 Tryd.underlying22 hi9 hz9 hs9 hb9 rfl (by omega) (u8) (i) (ints (bsC cs i)) rfl ((H4.out.row.alloc _)) ⟨w4.heap.size, 0, none⟩ 1 1 [.int .i64 ((baseC cs i : Nat) : Int)] rfl rfl (World.news_of_block (cs := #[.int .i64 ((baseC cs i : Nat) : Int)]) (t := 3) (fr := (0, 0)) (Blk.new_at _ _ _ _ (by simp))) (by simp [Value.oneCell']) (by omega) (by unfold maxLen; omega) (by omega) (by simp; omega) (w4.heap.size + 1) (by simp) ?_; intro ag9 ac9 aw9 aown9 agrow9 aat9 alt9)
      have H5 := hide (H4.out.app ((Fr.refl _ w4).alloc _) aown9 agrow9 (aat9.imp id fun e => by omega))
      clear aown9 agrow9 aat9 H4
      obtain ⟨u, hu, hu2⟩ := u64_nat x
      have hcm : cs[i]? = some (u % 21) := by rw [hcx, cnt_of hu]
      obtain ⟨m, hm⟩ : ∃ m, m = u % 21 := ⟨_, rfl⟩
      have hm20 : m ≤ 20 := by omega
      have hm1 : (u : Int) % 21 = (m : Int) := by omega
      have hm2 : (u : Int).tmod 21 = (m : Int) := by rw [Int.tmod_eq_emod_of_nonneg (by omega)]; omega
      have m0 : (0 : Int) ≤ (m : Int) := by omega
      have hmw : IntKind.i64.wrap (m : Int) = (m : Int) := by rw [IntKind.wrap_i64]; omega
      have HM := hide (show cs[i]? = some m by rw [hcm, hm])
      have Hu := hide hm
      clear hcx hcm hm
      go_loopw [7, 10] (fun s7 s10 wr => ∃ (k : Nat) (S : List Nat), k ≤ m ∧ s7 = .int .i64 ((baseC cs i + k : Nat) : Int) ∧ s10 = .int .i64 k ∧ SW w g cs (i + 1) (.slice (some ⟨ag9, 0, none⟩) (i + 1) ac9) (shs 10 cs i ++ [⟨((10 * i : Nat) : Int), spawns (baseC cs i) k⟩]) ((baseC cs i + k : Nat) : Int) S wr) (fun _ s10 _ => m - (intOf s10).toNat)
      case atStart => exact ⟨0, S4, by omega, rfl, rfl, H5.out⟩
      case round =>
        clear H5
        obtain ⟨k, S, hk, rfl, rfl, hw⟩ := hrel
        have HW := hide hw
        clear hw
        have a0 := (HW.out.fr.cell (p := ⟨b, off + i, none⟩) Hcl.out.1 (by simp)).trans Hcl.out.2
        have lb := Nat.lt_of_lt_of_le Hcl.out.1 HW.out.fr.size
        have k0 : (0 : Int) ≤ (k : Int) := by omega
        by_cases hkm : k < m
        · have k1 : (k : Int) < (m : Int) := by omega
          have HN := hide (note_lit hK (H0.out.1.fr0 HW.out.fr) HW.out.jr HW.out.fr.size (by rw [shs_len]; omega) (by omega) (by omega) (by rw [spawns_len]; omega) (k := 2) (id := ((baseC cs i + k : Nat) : Int)) (n := 0) (old := 0) (by omega) (by omega))
          go_wp2_with fail
          refine HN.out.mono ?_
          rintro e w5 (⟨hst, -, -⟩ | ⟨-, hl, -⟩ | ⟨-, -, rfl, S5, hj, hst⟩)
          · rw [stale_spawn] at hst; cases hst
          · omega
          have hj2 : JR w.heap.size w5 g (shs 10 cs i ++ [⟨((10 * i : Nat) : Int), spawns (baseC cs i) (k + 1)⟩]) 1024 ((baseC cs i + (k + 1) : Nat) : Int) S5 := by
            rw [spawns_succ]
            exact hj
          have H5 := hide (HW.out.stp hj2 hst)
          clear hj hj2 hst HN HW a0
          go_wp2_with fail
          go_roundw
          case rel => exact ⟨k + 1, S5, by omega, by go_num, by go_num, H5.out⟩
          case measure => simp [intOf]; omega
        · obtain rfl : k = m := by omega
          have H6 := hide (show SW w g cs (i + 1) (.slice (some ⟨ag9, 0, none⟩) (i + 1) ac9) (shs 10 cs (i + 1)) ((baseC cs (i + 1) : Nat) : Int) S wr by
            rw [shs_succ, base_succ HM.out]
            unfold stC
            rw [HM.out]
            exact HW.out)
          have hbs := base_succ HM.out
          clear HW
          go_wp2_with fail
          go_roundw
          case rel => exact ⟨i + 1, S, by omega, by rw [hbs], by go_num, H6.out⟩
          case measure => simp [intOf]; omega
    · obtain rfl : i = n := by omega
      clear hin hi
      obtain ⟨gb, cb, rfl⟩ : ∃ gb cb, u8 = .slice (some ⟨gb, 0, none⟩) i cb := by
        rcases row_form HW.out.row with ⟨_, h0, _⟩ | ⟨gp, cp, h1, _⟩
        · exact absurd h0 hc
        · exact ⟨gp, cp, h1⟩
      obtain ⟨u, hu, hu2⟩ := u64_nat tt
      have hlw : IntKind.u64.wrap (i : Int) = (i : Int) := by rw [IntKind.wrap_u64]; omega
      obtain ⟨k, hk⟩ : ∃ k, k = u % i := ⟨_, rfl⟩
      have hki : k < i := by rw [hk]; exact Nat.mod_lt _ (by omega)
      have hk1 : (u : Int) % (i : Int) = (k : Int) := by rw [hk]; exact (Int.natCast_emod u i).symm
      have hk2 : (u : Int).tmod (i : Int) = (k : Int) := by rw [Int.tmod_eq_emod_of_nonneg (by omega)]; exact hk1
      have k0 : (0 : Int) ≤ (k : Int) := by omega
      have k1 : (k : Int) < (i : Int) := by omega
      have hkw : IntKind.i64.wrap (k : Int) = (k : Int) := by rw [IntKind.wrap_i64]; omega
      have hkm : IntKind.i64.wrap (10 * (k : Int)) = ((10 * k : Nat) : Int) := by rw [IntKind.wrap_i64]; omega
      have hi0 : ((i : Int) == 0) = false := by simpa using hc
      have hpl : placeOf ((shs 10 cs i).map (·.fr)) ((10 * k : Nat) : Int) = some k := by rw [place_shs (by omega), if_pos hki]
      have hbk := base_mono (c := cs) (Nat.le_of_lt hki)
      obtain ⟨M, hM⟩ : ∃ M, M = baseC cs i - baseC cs k := ⟨_, rfl⟩
      obtain ⟨a, ha⟩ : ∃ a, a = baseC cs k := ⟨_, rfl⟩
      have hN : baseC cs i = a + M := by omega
      obtain ⟨us, hus⟩ : ∃ us, us = sinceU ((shs 10 cs i).drop k) := ⟨_, rfl⟩
      have hus2 : us = (spawns a M).reverse := by
        rw [hus, hM, ha, ← entries_shs_drop 10 cs (by rw [HC.out.1]; exact Nat.le_refl _) (Nat.le_of_lt hki)]
        rfl
      have hul : us.length = M := by rw [hus2, List.length_reverse, spawns_len]
      have HUs := hide (show ∀ t, t < M → us[t]? = some (mkU 2 ((a + (M - 1 - t) : Nat) : Int) 0 0) from fun t ht => by rw [hus2]; exact spawns_rev _ _ _ ht)
      have hel : (entries ((shs 10 cs i).drop k)).length = M := by rw [entries_shs_drop 10 cs (by rw [HC.out.1]; exact Nat.le_refl _) (Nat.le_of_lt hki), spawns_len, hM]
      have hall : ((entries (shs 10 cs i)).length : Int) = ((a + M : Nat) : Int) := by rw [entries_shs 10 cs (by rw [HC.out.1]; exact Nat.le_refl _), spawns_len, hN]
      have ca := row_cell HW.out.row (i := k) (u := .int .i64 a) (by unfold ints; rw [List.getElem?_map, bsC_get cs hki, ha]; rfl)
      have la := (row_lt HW.out.row (k := gb) rfl).1
      rw [hN] at HW hbi ⊢
      have HSi := since_calls hK (H0.out.1.fr0 HW.out.fr) HW.out.jr (by rw [shs_len]; omega) (fun s hs => by have := shs_us HC.out.2.1 s hs; omega) ((10 * k : Nat) : Int)
      unfold SincePost at HSi
      rw [hpl] at HSi
      simp only [] at HSi
      rw [← hus] at HSi
      have HS := hide HSi
      have HB := hide (fun W (hf : Fr [] wr W) => back_some hK (H0.out.1.fr0 (HW.out.fr.trans hf)) (HW.out.jr.fr0 hf) (Nat.le_trans HW.out.fr.size hf.size) (by rw [shs_len]; omega) (fun s hs => by have := shs_us HC.out.2.1 s hs; omega) (rising_shs (by omega) cs (by omega))
        (by omega) hall hpl)
      rw [← hus, hel, shs_take 10 cs (Nat.le_of_lt hki), show ((a + M : Nat) : Int) - ((M : Nat) : Int) = (a : Int) by omega] at HB
      have hM400 : M ≤ 400 := by omega
      have ha400 : a ≤ 400 := by omega
      have HP := hide (show placeOf ((shs 10 cs k ++ [(⟨((10 * k : Nat) : Int), []⟩ : St)]).map fun s : St => s.fr) ((10 * k : Nat) : Int) = some k by
        have h1 := place_shs (d := 10) (by omega) cs (k + 1) k
        rw [if_pos (by omega), shs_succ, List.map_append] at h1
        rw [List.map_append]
        exact h1)
      clear HSi hus hus2 hpl hel hk hbk hall hM ha hN
      go_wp2_with fail
      refine HS.out.mono ?_
      rintro e w5 ⟨v, rfl, hv, hf⟩
      obtain ⟨A1, c1, rfl⟩ := hv.form
      rw [hul] at hv ⊢
      have H5 := hide (And.intro hv hf)
      clear hv hf HS
      have HB2 := hide (HB.out w5 H5.out.2)
      clear HB
      go_wp2_with fail
      refine HB2.out.mono ?_
      rintro e w6 ⟨v, rfl, hv, S6, hj, hst⟩
      obtain ⟨A2, c2, rfl⟩ := hv.form
      rw [hul] at hv ⊢
      have hv1 := H5.out.1.keep hst.1 (fun x hx => (HW.out.jr.ge x hx).2)
      have H6 := hide ((HW.out.fr0 H5.out.2).stp hj hst)
      have ca6 : w6.cell? ⟨gb, k, none⟩ = some (.int .i64 a) := (hst.1.cell (p := ⟨gb, k, none⟩) (Nat.lt_of_lt_of_le la H5.out.2.size) (HW.out.dis gb rfl)).trans ((H5.out.2.cell (p := ⟨gb, k, none⟩) la (by simp)).trans ca)
      have la6 := Nat.lt_of_lt_of_le (Nat.lt_of_lt_of_le la H5.out.2.size) hst.1.size
      have HV := hide (And.intro hv1 (And.intro hv (show ∀ b ∈ S, b < wr.heap.size from fun b hb => (HW.out.jr.ge b hb).2)))
      have HC6 := hide (fun W (hf : Fr [] w6 W) => (hf.cell (p := ⟨gb, k, none⟩) la6 (by simp)).trans ca6)
      have HL := hide (fun W (hf : Fr [] w6 W) => alike_out (HV.out.1.keep hf (by simp)) (HV.out.2.1.keep hf (by simp)) hul hul (by omega))
      have HLen := hide (fun W (hf : Fr [] w6 W) => len_calls (H6.out.jr.fr0 hf))
      have HMk := hide (fun W (hf : Fr [] w6 W) => marks_calls (H6.out.jr.fr0 hf) (by rw [List.length_append, shs_len]; simp; omega))
      have hml : (shs 10 cs k ++ [(⟨((10 * k : Nat) : Int), []⟩ : St)]).length = k + 1 := by rw [List.length_append, shs_len]; rfl
      rw [hml] at HMk
      have hsub : IntKind.i64.wrap ((a : Int) + (M : Int) - (a : Int)) = (M : Int) := by rw [IntKind.wrap_i64]; omega
      have hkp : IntKind.i64.wrap ((k : Int) + 1) = (k : Int) + 1 := by rw [IntKind.wrap_i64]; omega
      have q7 : w6.drew.cell? ⟨gb, k, none⟩ = some (.int .i64 a) := ca6
      clear hv hv1 hj hst HW H5 HB2 ca la hml
      go_wp2_with fail
      go_region_held3 (fun w' => w'.cell? ⟨gb, k, none⟩ = some (.int .i64 a)) (first | exact q7 | with_reducible assumption)
        (first
          | (go_at_call 13; with_reducible refine (HL.out _ (show Fr [] w6 _ by (repeat (first | exact Fr.refl _ _ | apply Fr.drew | apply Fr.drewN | apply Fr.alloc | (refine Fr.setCell ?_ (by first | (left; simp [Value.ownBlock]; done) | (right; simp; omega) | (right; simp; done)) _))))).mono ?_; rintro e y0 ⟨rfl, hf⟩; have Y0 := hide ((show Fr [] w6 _ by (repeat (first | exact Fr.refl _ _ | apply Fr.drew | apply Fr.drewN | apply Fr.alloc | (refine Fr.setCell ?_ (by first | (left; simp [Value.ownBlock]; done) | (right; simp; omega) | (right; simp; done)) _)))).trans hf); have K0 := HC6.out _ Y0.out; clear hf)
          | (go_at_call 14; with_reducible refine (HLen.out _ Y0.out).mono ?_; rintro e y1 ⟨rfl, rfl⟩)
          | (go_at_call 15; with_reducible refine (HMk.out _ Y0.out).mono ?_; rintro e y2 ⟨v, rfl, hv, hf⟩; obtain ⟨A3, c3, rfl, -⟩ := row_reads hv; have Y2 := hide (Y0.out.trans hf); have K2 := HC6.out _ Y2.out; clear hf hv))
      go_wp2_with fail
      have HE := hide (And.intro (H6.out.fr0 Y2.out) (HV.out.1.keep Y2.out (by simp)))
      clear K0 Y0 Y2 HL HLen HMk HC6 q7 ca6 HV
      go_loopw [16] (fun s16 wx => ∃ t : Nat, t ≤ M ∧ s16 = .int .i64 t ∧ y2 = wx) (fun s16 _ => M - (intOf s16).toNat)
      case atStart => exact ⟨0, by omega, rfl, rfl⟩
      case round =>
        obtain ⟨t, ht, rfl, rfl⟩ := hrel
        have t0 : (0 : Int) ≤ (t : Int) := by omega
        by_cases htm : t < M
        · have t1 : (t : Int) < (M : Int) := by omega
          obtain ⟨gl, cl, e1, hgl, -, x1⟩ := HE.out.2.cells (HUs.out t htm)
          have e2 : A1 = some ⟨gl, 0, none⟩ := by injection e1
          clear e1
          subst e2
          replace x1 : y2.cell? ⟨gl, t * 11 + 1, none⟩ = some (.int .i64 ((a : Int) + (M : Int) - 1 - (t : Int))) := by
            rw [x1]
            show some (Value.int .i64 ((a + (M - 1 - t) : Nat) : Int)) = _
            congr 2
            omega
          have hw1 : IntKind.i64.wrap ((a : Int) + (M : Int) - 1) = (a : Int) + (M : Int) - 1 := by rw [IntKind.wrap_i64]; omega
          have hw2 : IntKind.i64.wrap ((a : Int) + (M : Int) - 1 - (t : Int)) = (a : Int) + (M : Int) - 1 - (t : Int) := by rw [IntKind.wrap_i64]; omega
          go_wp2_with fail
          go_roundw
          case rel => exact ⟨t + 1, by omega, by go_num, by trivial⟩
          case measure => simp [intOf]; omega
        · obtain rfl : t = M := by omega
          have hSi := since_calls hK (H0.out.1.fr0 HE.out.1.fr) HE.out.1.jr (by rw [List.length_append, shs_len]; simp; omega) (fun s hs => by
            rcases List.mem_append.1 hs with hs | hs
            · have := shs_us HC.out.2.1 s hs; omega
            · rw [List.mem_singleton] at hs; subst hs; simp) ((10 * k : Nat) : Int)
          unfold SincePost at hSi
          rw [HP.out] at hSi
          simp only [] at hSi
          rw [show (shs 10 cs k ++ [(⟨((10 * k : Nat) : Int), []⟩ : St)]).drop k = [⟨((10 * k : Nat) : Int), []⟩] by rw [List.drop_append, shs_len, List.drop_eq_nil_of_le (by rw [shs_len]; exact Nat.le_refl _), Nat.sub_self]; rfl, show sinceU [(⟨((10 * k : Nat) : Int), []⟩ : St)] = [] from rfl] at hSi
          have HS := hide hSi
          clear hSi
          go_wp2_with fail
          refine HS.out.mono ?_
          rintro e w9 ⟨v, rfl, hv, hf⟩
          obtain ⟨A9, c9, rfl⟩ := hv.form
          have HF := hide (HE.out.1.fr.trans hf)
          clear hv hf
          go_wp2_with fail
          go_ret
          exact ⟨rfl, HF.out.below (by simp) (Nat.le_refl _)⟩
end Go.Proofs.YtioeafjlbdpjoaaDoor

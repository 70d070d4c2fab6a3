/- JournalForgets: the walk of the law. -/
import Derived.Test.YtioeafjlbdpjoaaDoorStackW
import Derived.Test.YtioeafjlbdpjoaaDoorNoteE
namespace Go.Proofs.YtioeafjlbdpjoaaDoor
open Go.RowKit
set_option maxRecDepth 100000 in
set_option maxHeartbeats 8000000 in
theorem forgets_walk {w : World} {ad : Nat → Addr} {K : List Nat} (hK : KJ K) (hs : Sents K w.heap.size w ad) {A : Option Addr} {n c : Nat} {l : List Int} (hl : l.length = n) (hn : n ≤ maxLen) (hr : Reads w w.heap.size 1 A n (l.flatMap encI)) (tt : Int) :
    Calls Tryd.prog 4 #[.slice A n c, .int .i64 tt] w fun e w' => e = .returned (.bool true) ∧ Below w.heap.size w w' := by
  have HA := hide (awake_calls hK hs)
  obtain ⟨i9, hi9, hz9, hs9, hb9⟩ := info_parts infoIntJ
  have H0 := hide (And.intro hs (And.intro hl hr))
  have n1 : ∀ (W : World), (binOp .neq 26 .nilIface .nilIface).run Tryd.prog W = .ok (.bool false) W := fun W => by kernel_rfl
  have n2 : ∀ (W : World), (binOp .eql 26 .nilIface .nilIface).run Tryd.prog W = .ok (.bool true) W := fun W => by kernel_rfl
  have hn63 : (n : Int) ≤ 9223372036854775807 := by unfold maxLen at hn; omega
  clear hs hl hr hn
  go_enter Tryd.func4, Tryd.ntmps4
  go_wp2_with fail
  refine HA.out.mono ?_
  rintro e w1 ⟨rfl, hf1⟩
  have H1 := hide hf1
  clear hf1 HA
  go_wp2_with fail
  refine (new_calls (most := 1024) (by omega) (by omega)).mono ?_
  rintro e w2 ⟨g, rfl, ⟨S2, hj⟩, hf⟩
  have hj2 := hj.up H1.out.size
  have H2 := hide (And.intro hj2 (H1.out.trans hf))
  clear hj hj2 hf H1
  by_cases hc : n = 0
  · subst hc
    go_wp2_with fail
    go_ret
    exact ⟨rfl, H2.out.2.below (by simp) (Nat.le_refl _)⟩
  have j0 : ((n : Int) == 0) = false := by simpa using hc
  by_cases hc2 : 20 < n
  · have j1 : (20 : Int) < (n : Int) := by omega
    go_wp2_with fail
    go_ret
    exact ⟨rfl, H2.out.2.below (by simp) (Nat.le_refl _)⟩
  have j1 : decide ((20 : Int) < (n : Int)) = false := by simp; omega
  go_wp2_with fail
  obtain ⟨cs, hcs⟩ : ∃ cs, cs = l.map cnt := ⟨_, rfl⟩
  have HC := hide (And.intro (show cs.length = n by rw [hcs, List.length_map]; exact H0.out.2.1) (And.intro (show ∀ x ∈ cs, x ≤ 20 by rw [hcs]; exact cnts_le) (show ∀ (i : Nat) x, l[i]? = some x → cs[i]? = some (cnt x) by intro i x h; rw [hcs, List.getElem?_map, h]; rfl)))
  clear hcs
  have H3 : Hid (SW w g cs 0 (.slice (some ⟨w2.heap.size, 0, none⟩) 0 0) (shs 1 cs 0) ((baseC cs 0 : Nat) : Int) S2 (w2.alloc (.cells #[] 3))) := hide ⟨H2.out.1.fr0 ((Fr.refl _ _).alloc _), row_mk (base := w.heap.size) (n := 0) (cap := 0) (size := 1) (xs := []) (Blk.new w2 3 #[]) H2.out.2.size (Nat.le_refl _) (by simp [maxLen]) rfl rfl, fun b hb hm => by simp [Value.ownBlock] at hb; have := (H2.out.1.ge b hm).2; omega, H2.out.2.alloc _⟩
  clear H2
  generalize w2.alloc (.cells #[] 3) = w3 at *
  go_loopw [7, 8, 9] (fun s7 s8 s9 wr => ∃ (i : Nat) (S : List Nat), i ≤ n ∧ s7 = .int .i64 ((baseC cs i : Nat) : Int) ∧ s9 = .int .i64 i ∧ SW w g cs i s8 (shs 1 cs i) ((baseC cs i : Nat) : Int) S wr) (fun _ _ s9 _ => n - (intOf s9).toNat)
  case atStart => exact ⟨0, S2, by omega, by rw [base_zero]; rfl, rfl, H3.out⟩
  case round =>
    clear H3
    obtain ⟨i, S, hi, rfl, rfl, hw⟩ := hrel
    have HW := hide hw
    clear hw
    have i0 : (0 : Int) ≤ (i : Int) := by omega
    have hbi : baseC cs i ≤ 20 * i := base_le HC.out.2.1 i
    by_cases hin : i < n
    · have i1 : (i : Int) < (n : Int) := by omega
      have HM := hide (mark_calls HW.out.jr HW.out.fr.size (by rw [shs_len]; omega) (mark_shs (d := 1) (by omega) cs (by omega : i ≤ 20)))
      rw [Nat.one_mul] at HM
      obtain ⟨x, hx⟩ : ∃ x, l[i]? = some x := ⟨_, List.getElem?_eq_getElem (by rw [H0.out.2.1]; exact hin)⟩
      obtain ⟨b, off, rfl, hb, hcl⟩ := H0.out.2.2.at_ encI_len hx H0.out.2.1
      have hcx := HC.out.2.2 i x hx
      have Hcl := hide (And.intro hb (show w.cell? ⟨b, off + i, none⟩ = some (.int .i64 x) by have := hcl 0 (.int .i64 x) rfl; rwa [Nat.mul_one, Nat.add_zero] at this))
      clear hcl hb hx
      go_wp2_with fail
      refine HM.out.mono ?_
      rintro e w4 ⟨rfl, S4, hj, hst⟩
      have H4 := hide (HW.out.stp hj hst)
      clear hj hst HM HW
      have hb4 := H4.out.fr.size
      go_wp2_with (at_builtin; refine wpList_append_lies _ rfl _ _ _ rfl w.heap.size 3 i9 _ 1 8 Tryd.underlying22 hi9 hz9 hs9 hb9 rfl (by omega) (u8) (i) (ints (bsC cs i)) rfl ((H4.out.row.alloc _)) ⟨w4.heap.size, 0, none⟩ 1 1 [.int .i64 ((baseC cs i : Nat) : Int)] rfl rfl (World.news_of_block (cs := #[.int .i64 ((baseC cs i : Nat) : Int)]) (t := 3) (fr := (0, 0)) (Blk.new_at _ _ _ _ (by simp))) (by simp [Value.oneCell']) (by omega) (by unfold maxLen; omega) (by omega) (by simp; omega) (w4.heap.size + 1) (by simp) ?_; intro ag9 ac9 aw9 aown9 agrow9 aat9 alt9)
      have H5 := hide (H4.out.app ((Fr.refl _ w4).alloc _) aown9 agrow9 (aat9.imp id fun e => by omega))
      clear aown9 agrow9 aat9 H4
      obtain ⟨u, hu, hu2⟩ := u64_nat x
      have hcm : cs[i]? = some (u % 21) := by rw [hcx, cnt_of hu]
      obtain ⟨m, hm⟩ : ∃ m, m = u % 21 := ⟨_, rfl⟩
      have hm20 : m ≤ 20 := by omega
      have hm1 : (u : Int) % 21 = (m : Int) := by omega
      have hm2 : (u : Int).tmod 21 = (m : Int) := by rw [Int.tmod_eq_emod_of_nonneg (by omega)]; omega
      have m0 : (0 : Int) ≤ (m : Int) := by omega
      have hmw : IntKind.i64.wrap (m : Int) = (m : Int) := by rw [IntKind.wrap_i64]; omega
      have HM := hide (show cs[i]? = some m by rw [hcm, hm])
      have Hu := hide hm
      clear hcx hcm hm
      go_loopw [7, 10] (fun s7 s10 wr => ∃ (k : Nat) (S : List Nat), k ≤ m ∧ s7 = .int .i64 ((baseC cs i + k : Nat) : Int) ∧ s10 = .int .i64 k ∧ SW w g cs (i + 1) (.slice (some ⟨ag9, 0, none⟩) (i + 1) ac9) (shs 1 cs i ++ [⟨(i : Int), spawns (baseC cs i) k⟩]) ((baseC cs i + k : Nat) : Int) S wr) (fun _ s10 _ => m - (intOf s10).toNat)
      case atStart => exact ⟨0, S4, by omega, rfl, rfl, H5.out⟩
      case round =>
        clear H5
        obtain ⟨k, S, hk, rfl, rfl, hw⟩ := hrel
        have HW := hide hw
        clear hw
        have a0 := (HW.out.fr.cell (p := ⟨b, off + i, none⟩) Hcl.out.1 (by simp)).trans Hcl.out.2
        have lb := Nat.lt_of_lt_of_le Hcl.out.1 HW.out.fr.size
        have k0 : (0 : Int) ≤ (k : Int) := by omega
        by_cases hkm : k < m
        · have k1 : (k : Int) < (m : Int) := by omega
          have HN := hide (note_lit hK (H0.out.1.fr0 HW.out.fr) HW.out.jr HW.out.fr.size (by rw [shs_len]; omega) (by omega) (by omega) (by rw [spawns_len]; omega) (k := 2) (id := ((baseC cs i + k : Nat) : Int)) (n := 0) (old := 0) (by omega) (by omega))
          go_wp2_with fail
          refine HN.out.mono ?_
          rintro e w5 (⟨hst, -, -⟩ | ⟨-, hl, -⟩ | ⟨-, -, rfl, S5, hj, hst⟩)
          · rw [stale_spawn] at hst; cases hst
          · omega
          have hj2 : JR w.heap.size w5 g (shs 1 cs i ++ [⟨(i : Int), spawns (baseC cs i) (k + 1)⟩]) 1024 ((baseC cs i + (k + 1) : Nat) : Int) S5 := by
            rw [spawns_succ]
            exact hj
          have H5 := hide (HW.out.stp hj2 hst)
          clear hj hj2 hst HN HW a0
          go_wp2_with fail
          go_roundw
          case rel => exact ⟨k + 1, S5, by omega, by go_num, by go_num, H5.out⟩
          case measure => simp [intOf]; omega
        · obtain rfl : k = m := by omega
          have H6 := hide (show SW w g cs (i + 1) (.slice (some ⟨ag9, 0, none⟩) (i + 1) ac9) (shs 1 cs (i + 1)) ((baseC cs (i + 1) : Nat) : Int) S wr by
            rw [shs_succ, base_succ HM.out]
            unfold stC
            rw [HM.out, Nat.one_mul]
            exact HW.out)
          have hbs := base_succ HM.out
          clear HW
          go_wp2_with fail
          go_roundw
          case rel => exact ⟨i + 1, S, by omega, by rw [hbs], by go_num, H6.out⟩
          case measure => simp [intOf]; omega
    · obtain rfl : i = n := by omega
      clear hin hi
      obtain ⟨gb, cb, rfl⟩ : ∃ gb cb, u8 = .slice (some ⟨gb, 0, none⟩) i cb := by
        rcases row_form HW.out.row with ⟨_, h0, _⟩ | ⟨gp, cp, h1, _⟩
        · exact absurd h0 hc
        · exact ⟨gp, cp, h1⟩
      obtain ⟨u, hu, hu2⟩ := u64_nat tt
      have hlp : IntKind.i64.wrap ((i : Int) + 1) = (i : Int) + 1 := by rw [IntKind.wrap_i64]; omega
      have hlw : IntKind.u64.wrap ((i : Int) + 1) = (i : Int) + 1 := by rw [IntKind.wrap_u64]; omega
      obtain ⟨k, hk⟩ : ∃ k, k = u % (i + 1) := ⟨_, rfl⟩
      have hki : k ≤ i := by have := Nat.mod_lt u (show 0 < i + 1 by omega); omega
      have hk1 : (u : Int) % ((i : Int) + 1) = (k : Int) := by rw [hk]; exact (Int.natCast_emod u (i + 1)).symm
      have hk2 : (u : Int).tmod ((i : Int) + 1) = (k : Int) := by rw [Int.tmod_eq_emod_of_nonneg (by omega)]; exact hk1
      have k0 : (0 : Int) ≤ (k : Int) := by omega
      have k1 : (k : Int) ≤ (i : Int) := by omega
      have hkw : IntKind.i64.wrap (k : Int) = (k : Int) := by rw [IntKind.wrap_i64]; omega
      have hi0 : ((i : Int) == 0) = false := by simpa using hc
      have hi1 : ((i : Int) + 1 == 0) = false := by simp; omega
      obtain ⟨q, hq⟩ : ∃ q, q = min k (i - 1) := ⟨_, rfl⟩
      have hqi : q < i := by omega
      have q0 : (0 : Int) ≤ (q : Int) := by omega
      have q1 : (q : Int) < (i : Int) := by omega
      have hlm : IntKind.i64.wrap ((i : Int) - 1) = (i : Int) - 1 := by rw [IntKind.wrap_i64]; omega
      have hmin : (if (i : Int) - 1 < (k : Int) then (i : Int) - 1 else (k : Int)) = (q : Int) := by split <;> omega
      have hbk := base_mono (c := cs) (Nat.le_of_lt hqi)
      obtain ⟨M, hM⟩ : ∃ M, M = baseC cs i - baseC cs q := ⟨_, rfl⟩
      obtain ⟨a, ha⟩ : ∃ a, a = baseC cs q := ⟨_, rfl⟩
      have hN : baseC cs i = a + M := by omega
      have hall : ((entries (shs 1 cs i)).length : Int) = ((baseC cs i : Nat) : Int) := by rw [entries_shs 1 cs (by rw [HC.out.1]; exact Nat.le_refl _), spawns_len]
      have HF := hide (forget_calls HW.out.jr (by rw [shs_len]; omega) (by omega) hall (k : Int))
      rw [fg_shs, ← hq, shs_take 1 cs (Nat.le_of_lt hqi), entries_shs 1 cs (by rw [HC.out.1]; omega), spawns_len, ← ha, hN, show ((a + M : Nat) : Int) - ((a : Nat) : Int) = (M : Int) by omega] at HF
      rw [hN] at HW hbi ⊢
      have HQ := hide (And.intro hN ha)
      have hM400 : M ≤ 400 := by omega
      have ha400 : a ≤ 400 := by omega
      clear hall hk hM ha hN hbk hq
      go_wp2_with fail
      refine HF.out.mono ?_
      rintro e w5 ⟨rfl, S5, hj, hst⟩
      have H5 := hide (HW.out.stp hj hst)
      have hdl : ((shs 1 cs i).drop q).length = i - q := by rw [List.length_drop, shs_len]
      have HMk := hide (marks_calls H5.out.jr (by rw [hdl]; omega))
      rw [hdl, shs_drop_fr] at HMk
      clear hj hst HF HW
      go_wp2_with fail
      refine HMk.out.mono ?_
      rintro e w6 ⟨v, rfl, hv, hf⟩
      obtain ⟨gv, cv, rfl⟩ : ∃ gv cv, v = .slice (some ⟨gv, 0, none⟩) (i - q) cv := by
        rcases row_form hv with ⟨_, h0, _⟩ | ⟨gp, cp, h1, _⟩
        · omega
        · exact ⟨gp, cp, h1⟩
      obtain ⟨R, hR⟩ : ∃ R, R = i - q := ⟨_, rfl⟩
      have hR2 : i = q + R := by omega
      rw [← hR] at hv
      have H6 := hide (And.intro (H5.out.fr0 hf) hv)
      have ca6 : w6.cell? ⟨gb, q, none⟩ = some (.int .i64 a) := row_cell H6.out.1.row (i := q) (u := .int .i64 a) (by unfold ints; rw [List.getElem?_map, bsC_get cs hqi, ← HQ.out.2]; rfl)
      have la6 := (row_lt H6.out.1.row (k := gb) rfl).1
      have HC6 := hide (fun W (hf : Fr [] w6 W) => (hf.cell (p := ⟨gb, q, none⟩) la6 (by simp)).trans ca6)
      have HLen := hide (fun W (hf : Fr [] w6 W) => len_calls (H6.out.1.jr.fr0 hf))
      have hsub : IntKind.i64.wrap ((a : Int) + (M : Int) - (a : Int)) = (M : Int) := by rw [IntKind.wrap_i64]; omega
      have hsub2 : IntKind.i64.wrap ((i : Int) - (q : Int)) = (R : Int) := by rw [IntKind.wrap_i64]; omega
      have q7 : w6.drew.cell? ⟨gb, q, none⟩ = some (.int .i64 a) := ca6
      clear hv hf HMk H5
      rw [← hR]
      have HR := hide (And.intro hR hR2)
      clear hR hR2
      go_wp2_with fail
      refine (HLen.out _ (Fr.refl _ _)).mono ?_
      rintro e w' ⟨rfl, rfl⟩
      go_wp2_with fail
      have HE := hide (And.intro H6.out.1 H6.out.2)
      clear HLen HC6 ca6 la6 q7 H6
      go_loopw [14] (fun s14 wx => ∃ t : Nat, t ≤ R ∧ s14 = .int .i64 t ∧ SW w g cs i (.slice (some ⟨gb, 0, none⟩) i cb) ((shs 1 cs i).drop q) (M : Int) S5 wx ∧ Fr [] w6 wx) (fun s14 _ => R - (intOf s14).toNat)
      case atStart => exact ⟨0, by omega, rfl, HE.out.1, Fr.refl _ _⟩
      case round =>
        obtain ⟨t, ht, rfl, hw, hf6⟩ := hrel
        have HX := hide (And.intro hw hf6)
        clear hw hf6
        have t0 : (0 : Int) ≤ (t : Int) := by omega
        by_cases htm : t < R
        · have t1 : (t : Int) < (R : Int) := by omega
          have hqt : q + t < i := by have := HR.out.2; omega
          have hbt := base_mono (c := cs) (Nat.le_of_lt hqt)
          have hbq := base_mono (c := cs) (show q ≤ q + t by omega)
          obtain ⟨bt, hbt2⟩ : ∃ bt, bt = baseC cs (q + t) := ⟨_, rfl⟩
          obtain ⟨D, hD⟩ : ∃ D, D = baseC cs i - baseC cs (q + t) := ⟨_, rfl⟩
          have hsum : a + M = bt + D := by have := HQ.out.1; omega
          have hlv := row_lt HE.out.2 (k := gv) rfl
          have y1 : wr.cell? ⟨gv, t, none⟩ = some (.int .i64 ((q : Int) + (t : Int))) := by
            rw [HX.out.2.cell (p := ⟨gv, t, none⟩) hlv.1 (by simp)]
            refine row_cell HE.out.2 ?_
            unfold ints
            rw [List.getElem?_map, List.getElem?_map, List.getElem?_range' htm, Nat.one_mul]
            show some (Value.int .i64 ((1 * (q + t) : Nat) : Int)) = _
            rw [Nat.one_mul]
            rfl
          have y2 : wr.cell? ⟨gb, q + t, none⟩ = some (.int .i64 bt) := row_cell HX.out.1.row (by unfold ints; rw [List.getElem?_map, bsC_get cs hqt, ← hbt2]; rfl)
          have ly1 := Nat.lt_of_lt_of_le hlv.1 HX.out.2.size
          have ly2 := (row_lt HX.out.1.row (k := gb) rfl).1
          have hlc := HC.out.1
          have hpl : placeOf (((shs 1 cs i).drop q).map fun s => s.fr) ((q : Int) + (t : Int)) = some t := by
            have h1 := place_map 1 q (i - q) (q + t) (by omega)
            rw [if_pos (by omega), show ((1 * (q + t) : Nat) : Int) = (q : Int) + (t : Int) by rw [Nat.one_mul]; rfl, Nat.add_sub_cancel_left] at h1
            rw [shs_drop_fr]
            exact h1
          have hSi := since_calls hK (H0.out.1.fr0 HX.out.1.fr) HX.out.1.jr (by rw [hdl]; omega) (fun s hs => by have := shs_us HC.out.2.1 s (List.mem_of_mem_drop hs); omega) ((q : Int) + (t : Int))
          unfold SincePost at hSi
          rw [hpl] at hSi
          simp only [] at hSi
          obtain ⟨us, hus⟩ : ∃ us, us = sinceU (((shs 1 cs i).drop q).drop t) := ⟨_, rfl⟩
          have hul : us.length = D := by
            rw [hus, List.drop_drop]
            unfold sinceU
            rw [List.length_reverse]
            have := entries_shs_drop 1 cs (m := i) (k := q + t) (by omega) (by omega)
            unfold entries at this
            rw [this, spawns_len, hD]
          rw [← hus] at hSi
          have HS := hide hSi
          have w1' : IntKind.i64.wrap ((q : Int) + (t : Int)) = (q : Int) + (t : Int) := by rw [IntKind.wrap_i64]; omega
          have w2' : IntKind.i64.wrap ((a : Int) + (M : Int) - (bt : Int)) = (D : Int) := by rw [IntKind.wrap_i64]; omega
          have qt0 : (0 : Int) ≤ (q : Int) + (t : Int) := by omega
          have qt1 : (q : Int) + (t : Int) < (i : Int) := by omega
          have D400 : D ≤ 400 := by omega
          have qtn : ((q : Int) + (t : Int)).toNat = q + t := by omega
          have Hs := hide hsum
          have HY := hide (And.intro y2 ly2)
          clear hSi hus hbt2 hD hsum hpl hbt hbq hlv y2 ly2
          go_wp2_with fail
          refine HS.out.mono ?_
          rintro e w9 ⟨v, rfl, hv, hf⟩
          obtain ⟨A9, c9, rfl⟩ := hv.form
          rw [hul]
          have y1b := (hf.cell (p := ⟨gv, t, none⟩) ly1 (by simp)).trans y1
          have y2b := (hf.cell (p := ⟨gb, q + t, none⟩) HY.out.2 (by simp)).trans HY.out.1
          have lz1 := Nat.lt_of_lt_of_le ly1 hf.size
          have lz2 := Nat.lt_of_lt_of_le HY.out.2 hf.size
          have H9 := hide (And.intro (HX.out.1.fr0 hf) (HX.out.2.trans hf))
          clear hv hf HS y1 ly1 hul
          go_wp2_with fail
          go_roundw
          case rel => exact ⟨t + 1, by omega, by go_num, H9.out.1, H9.out.2⟩
          case measure => simp [intOf]; omega
        · obtain rfl : t = R := by omega
          have HF := hide (And.intro (H0.out.1.fr0 HX.out.1.fr) HX.out.1.fr)
          clear HX HE htm ht hdl
          have HN1 := hide (since_nil hK HF.out.1 0)
          go_wp2_with fail
          refine HN1.out.mono ?_
          rintro e w9 ⟨v, rfl, ⟨b1, s1, -, rfl, hc1⟩, hf⟩
          have HF1 := hide (And.intro (HF.out.1.fr0 hf) (HF.out.2.trans hf))
          have HC1 := hide hc1
          clear hf hc1 HN1
          have HN2 := hide (back_err (since_nil hK HF1.out.1 0))
          go_wp2_with fail
          refine HN2.out.mono ?_
          rintro e w10 ⟨v, rfl, ⟨b2, s2, -, rfl, hc2'⟩, hf⟩
          have HF2 := hide (And.intro (HF1.out.1.fr0 hf) (HF1.out.2.trans hf))
          have HC2 := hide (And.intro (HC1.out.fr0 hf) hc2')
          clear hf hc2' HN2
          have HSe := hide (fun W (hf : Fr [] w10 W) => HF2.out.1.fr0 hf)
          have HK2 : Hid (∀ W, Fr [] w10 W → W.cell? ⟨0, 0, none⟩ = some (sv (ad 2))) := hide (fun W (hf : Fr [] w10 W) => (HF2.out.1.fr0 hf).cell 2 hK.h2)
          have HI1 := hide (fun W (hf : Fr [] w10 W) => is_chain (HF2.out.1.fr0 hf) hK.h2 hK.h2 (chain_of (HC2.out.1.fr0 hf)))
          have HI2 := hide (fun W (hf : Fr [] w10 W) => is_chain (HF2.out.1.fr0 hf) hK.h2 hK.h2 (chain_of (HC2.out.2.fr0 hf)))
          rw [decide_eq_true rfl] at HI1 HI2
          have HMn := hide (fun W (hf : Fr [] w10 W) => mark_nil hK (HF2.out.1.fr0 hf) 0)
          have HNn : Hid (∀ W, Fr [] w10 W → Calls Tryd.prog 10 #[.pointer none, .agg #[.int .i64 0, .int .i64 0, .int .i64 0, .int .i64 0, .int .i64 0, .int .i64 0, .int .i64 0, .int .i64 0, .slice none 0 0, .int .i64 0, .int .i64 0]] W (ErrPost W ad 2)) := hide (fun W (hf : Fr [] w10 W) => note_nil hK (HF2.out.1.fr0 hf) ⟨mkU 0 0 0 0, none, 0⟩)
          have g2 : w10.drew.cell? ⟨0, 0, none⟩ = some (sv (ad 2)) := HF2.out.1.cell 2 hK.h2
          have l2 := Nat.lt_of_lt_of_le (HF2.out.1.glob 2 hK.h2) HF2.out.1.le
          simp only [gOf] at l2
          go_wp2_with fail
          go_region_held3 (fun w' => w'.cell? ⟨0, 0, none⟩ = some (sv (ad 2))) (first | exact g2 | with_reducible assumption)
            (first
              | (go_at_call 17; with_reducible refine (HI1.out _ (show Fr [] w10 _ by (repeat (first | exact Fr.refl _ _ | apply Fr.drew | apply Fr.drewN | apply Fr.alloc | (refine Fr.setCell ?_ (by first | (left; simp [Value.ownBlock]; done) | (right; simp; omega) | (right; simp; done)) _))))).mono ?_; rintro e y1 ⟨rfl, rfl⟩)
              | (go_at_call 17; with_reducible refine (HI2.out _ (show Fr [] w10 _ by (repeat (first | exact Fr.refl _ _ | apply Fr.drew | apply Fr.drewN | apply Fr.alloc | (refine Fr.setCell ?_ (by first | (left; simp [Value.ownBlock]; done) | (right; simp; omega) | (right; simp; done)) _))))).mono ?_; rintro e y2 ⟨rfl, rfl⟩)
              | (go_at_call 9; (with_reducible refine (HMn.out _ (show Fr [] w10 _ by (repeat (first | exact Fr.refl _ _ | apply Fr.drew | apply Fr.drewN | apply Fr.alloc | (refine Fr.setCell ?_ (by first | (left; simp [Value.ownBlock]; done) | (right; simp; omega) | (right; simp; done)) _))))).mono ?_); rintro e y3 ⟨v3, rfl, ⟨b3, s3, -, rfl, hc3⟩, hf⟩; have Y3 := hide ((show Fr [] w10 _ by (repeat (first | exact Fr.refl _ _ | apply Fr.drew | apply Fr.drewN | apply Fr.alloc | (refine Fr.setCell ?_ (by first | (left; simp [Value.ownBlock]; done) | (right; simp; omega) | (right; simp; done)) _)))).trans hf); have K3 := HK2.out _ Y3.out; have HI3 := hide (is_chain (HSe.out _ Y3.out) hK.h2 hK.h2 (chain_of hc3)); rw [decide_eq_true rfl] at HI3; clear hf hc3)
              | (go_at_call 17; with_reducible refine HI3.out.mono ?_; rintro e y4 ⟨rfl, rfl⟩)
              | (go_at_call 10; (with_reducible refine (HNn.out _ Y3.out).mono ?_); rintro e y5 ⟨v5, rfl, ⟨b5, s5, -, rfl, hc5⟩, hf⟩; have Y5 := hide (Y3.out.trans hf); have K5 := HK2.out _ Y5.out; have HI5 := hide (is_chain (HSe.out _ Y5.out) hK.h2 hK.h2 (chain_of hc5)); rw [decide_eq_true rfl] at HI5; clear hf hc5)
              | (go_at_call 17; with_reducible refine HI5.out.mono ?_; rintro e y6 ⟨rfl, rfl⟩)
              | (go_at_call 16; with_reducible refine (forget_nil _ 0).mono ?_; rintro e y7 ⟨rfl, rfl⟩)
              | (go_at_call 14; with_reducible refine (len_nil _).mono ?_; rintro e y8 ⟨rfl, rfl⟩)
              | (go_at_call 15; with_reducible refine (marks_nil _).mono ?_; rintro e y9 ⟨rfl, rfl⟩))
          go_wp2_with fail
          go_ret
          exact ⟨rfl, (HF2.out.2.trans Y5.out).below (by simp) (Nat.le_refl _)⟩
end Go.Proofs.YtioeafjlbdpjoaaDoor

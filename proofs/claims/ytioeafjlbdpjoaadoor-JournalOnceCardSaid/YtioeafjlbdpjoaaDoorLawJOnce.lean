/- JournalOnce: the walk of the law. -/
import Derived.Test.YtioeafjlbdpjoaaDoorOncePl
import Derived.Test.YtioeafjlbdpjoaaDoorSameU
namespace Go.Proofs.YtioeafjlbdpjoaaDoor
open Go.RowKit
set_option maxRecDepth 100000 in
set_option maxHeartbeats 8000000 in
theorem once_walk {w : World} {ad : Nat → Addr} {K : List Nat} (hK : KJ K) (hs : Sents K w.heap.size w ad) (times : Int) (d : Ud) :
    Calls Tryd.prog 5 #[.int .i64 times, d.val] w fun e w' => e = .returned (.bool true) ∧ Below w.heap.size w w' := by
  have H0 := hide hs
  have n1 : ∀ (W : World), (binOp .neq 26 .nilIface .nilIface).run Tryd.prog W = .ok (.bool false) W := fun W => by kernel_rfl
  obtain ⟨⟨dk, di, ⟨dc, dv0, dv1, dv2, dv3, dt⟩, dps, dn, dold⟩, dA, dcap⟩ := d
  simp only [Ud.val]
  generalize dps.length = dl
  have HA := hide (awake_calls hK (hs.fr0 ((Fr.refl [] w).alloc (.cells #[.int .i64 dk, .int .i64 di, .int .i64 dc, .int .i64 dv0, .int .i64 dv1, .int .i64 dv2, .int .i64 dv3, .int .i64 dt, .slice dA dl dcap, .int .i64 dn, .int .i64 dold] 37))))
  have hb0 := Blk.new w 37 #[.int .i64 dk, .int .i64 di, .int .i64 dc, .int .i64 dv0, .int .i64 dv1, .int .i64 dv2, .int .i64 dv3, .int .i64 dt, .slice dA dl dcap, .int .i64 dn, .int .i64 dold]
  clear hs
  go_enter Tryd.func5, Tryd.ntmps5
  go_wp2_with fail
  refine HA.out.mono ?_
  rintro e w1 ⟨rfl, hf1⟩
  have H1 := hide (((Fr.refl [] w).alloc (.cells #[.int .i64 dk, .int .i64 di, .int .i64 dc, .int .i64 dv0, .int .i64 dv1, .int .i64 dv2, .int .i64 dv3, .int .i64 dt, .slice dA dl dcap, .int .i64 dn, .int .i64 dold] 37)).trans hf1)
  have HB1 := hide (hb0.fr0 hf1)
  clear hf1 HA hb0
  go_wp2_with fail
  refine (new_calls (most := 100) (by omega) (by omega)).mono ?_
  rintro e w2 ⟨g, rfl, ⟨S2, hj⟩, hf⟩
  have hj2 := hj.up H1.out.size
  have H2 := hide (And.intro hj2 (H1.out.trans hf))
  have hb2 := HB1.out.fr0 hf
  have u1 := hb2.at_ 1 (v := .int .i64 di) rfl
  have u2 := hb2.at_ 2 (v := .int .i64 dc) rfl
  have u9 := hb2.at_ 9 (v := .int .i64 dn) rfl
  have lu := hb2.lt
  clear hj hj2 hf H1 HB1 hb2
  obtain ⟨u, hu, hu2⟩ := u64_nat times
  obtain ⟨r, hr⟩ : ∃ r, r = u % 60 := ⟨_, rfl⟩
  have hr1 : (u : Int) % 60 = (r : Int) := by omega
  have hr2 : (u : Int).tmod 60 = (r : Int) := by rw [Int.tmod_eq_emod_of_nonneg (by omega)]; omega
  have hr60 : r < 60 := by omega
  have hrw : IntKind.i64.wrap (r : Int) = (r : Int) := by rw [IntKind.wrap_i64]; omega
  obtain ⟨n, hn⟩ : ∃ n, n = 1 + r := ⟨_, rfl⟩
  have hnw : IntKind.i64.wrap (1 + (r : Int)) = (n : Int) := by rw [IntKind.wrap_i64]; omega
  have n60 : n ≤ 60 := by omega
  clear hr
  go_wp2_with fail
  have H3 : Hid (OW w g w2.heap.size (onceL di dc dn) (fsts (onceL di dc dn) 0) ((5 * 0 : Nat) : Int) S2 (w2.alloc (.cells #[.int .i64 1, .int .i64 di, .int .i64 dc, .int .i64 0, .int .i64 0, .int .i64 0, .int .i64 0, .int .i64 1, .slice none 0 0, .int .i64 0, .int .i64 0, .int .i64 6, .int .i64 0, .int .i64 0, .int .i64 0, .int .i64 0, .int .i64 0, .int .i64 0, .int .i64 0, .slice none 0 0, .int .i64 dn, .int .i64 1, .int .i64 7, .int .i64 0, .int .i64 0, .int .i64 0, .int .i64 0, .int .i64 0, .int .i64 0, .int .i64 0, .slice none 0 0, .int .i64 0, .int .i64 1, .int .i64 8, .int .i64 0, .int .i64 0, .int .i64 0, .int .i64 0, .int .i64 0, .int .i64 0, .int .i64 0, .slice none 0 0, .int .i64 0, .int .i64 1, .int .i64 9, .int .i64 0, .int .i64 0, .int .i64 0, .int .i64 0, .int .i64 0, .int .i64 0, .int .i64 0, .slice none 0 0, .int .i64 0, .int .i64 1] 37))) := hide ⟨H2.out.1.fr0 ((Fr.refl _ _).alloc _), Blk.new w2 37 (onceR (onceL di dc dn)).toArray, fun hm => by have := (H2.out.1.ge _ hm).2; omega, H2.out.2.alloc _⟩
  generalize w2.alloc (.cells #[.int .i64 1, .int .i64 di, .int .i64 dc, .int .i64 0, .int .i64 0, .int .i64 0, .int .i64 0, .int .i64 1, .slice none 0 0, .int .i64 0, .int .i64 0, .int .i64 6, .int .i64 0, .int .i64 0, .int .i64 0, .int .i64 0, .int .i64 0, .int .i64 0, .int .i64 0, .slice none 0 0, .int .i64 dn, .int .i64 1, .int .i64 7, .int .i64 0, .int .i64 0, .int .i64 0, .int .i64 0, .int .i64 0, .int .i64 0, .int .i64 0, .slice none 0 0, .int .i64 0, .int .i64 1, .int .i64 8, .int .i64 0, .int .i64 0, .int .i64 0, .int .i64 0, .int .i64 0, .int .i64 0, .int .i64 0, .slice none 0 0, .int .i64 0, .int .i64 1, .int .i64 9, .int .i64 0, .int .i64 0, .int .i64 0, .int .i64 0, .int .i64 0, .int .i64 0, .int .i64 0, .slice none 0 0, .int .i64 0, .int .i64 1] 37) = wl at *
  generalize w2.heap.size = lb at *
  have HL := hide (And.intro (show (onceL di dc dn).length = 5 from rfl) (And.intro (fun (k : Nat) (X : Un) (h : (onceL di dc dn)[k]? = some X) => once_item h) (And.intro (fun (f : Int) (k : Nat) (X : Un) (h : (onceL di dc dn)[k]? = some X) => once_new f h) (fun (f i : Int) (k : Nat) (X : Un) (h : (onceL di dc dn)[k]? = some X) => once_old f i h))))
  generalize onceL di dc dn = L at *
  clear H2 u1 u2 u9 lu
  go_loopw [9] (fun s9 wr => ∃ (f : Nat) (S : List Nat), f ≤ 2 ∧ s9 = .int .i64 f ∧ OW w g lb L (fsts L f) ((5 * f : Nat) : Int) S wr) (fun s9 _ => 2 - (intOf s9).toNat)
  case atStart => exact ⟨0, S2, by omega, rfl, H3.out⟩
  case round =>
    clear H3
    obtain ⟨f, S, hf2, rfl, hw⟩ := hrel
    have HW := hide hw
    clear hw
    have f0 : (0 : Int) ≤ (f : Int) := by omega
    by_cases hff : f < 2
    · have f1 : (f : Int) < 2 := by omega
      have HM := hide (mark_calls HW.out.jr HW.out.fr.size (by rw [fsts_len]; omega) (fsts_mark L hf2))
      go_wp2_with fail
      refine HM.out.mono ?_
      rintro e w4 ⟨rfl, S4, hj, hst⟩
      have H4 := hide (HW.out.stp hj hst)
      clear hj hst HM HW
      go_wp2_with fail
      go_loopw [10] (fun s10 wr => ∃ (i : Nat) (S : List Nat), i ≤ 1 + r ∧ s10 = .int .i64 i ∧ OW w g lb L (fsts L f ++ [⟨(f : Int), usAt L i 0⟩]) ((5 * f + (usAt L i 0).length : Nat) : Int) S wr) (fun s10 _ => 1 + r - (intOf s10).toNat)
      case atStart => exact ⟨0, S4, by omega, rfl, by rw [usAt_zero, List.take_zero]; exact H4.out⟩
      case round =>
        clear H4
        obtain ⟨i, S, hi, rfl, hw⟩ := hrel
        have HW := hide hw
        clear hw
        have i0 : (0 : Int) ≤ (i : Int) := by omega
        by_cases hir : i < 1 + r
        · have i1 : (i : Int) < 1 + (r : Int) := by omega
          go_wp2_with fail
          go_loopw [11] (fun s11 wr => ∃ (k : Nat) (S : List Nat), k ≤ 5 ∧ s11 = .int .i64 k ∧ OW w g lb L (fsts L f ++ [⟨(f : Int), usAt L i k⟩]) ((5 * f + (usAt L i k).length : Nat) : Int) S wr) (fun s11 _ => 5 - (intOf s11).toNat)
          case atStart => exact ⟨0, S, by omega, rfl, HW.out⟩
          case round =>
            clear HW
            obtain ⟨k, S, hk, rfl, hw⟩ := hrel
            have HW := hide hw
            clear hw
            have k0 : (0 : Int) ≤ (k : Int) := by omega
            by_cases hk5 : k < 5
            · have k1 : (k : Int) < 5 := by omega
              obtain ⟨X, hX⟩ : ∃ X, L[k]? = some X := ⟨_, List.getElem?_eq_getElem (by rw [HL.out.1]; exact hk5)⟩
              obtain ⟨hkd, hps, hold, htk⟩ := HL.out.2.1 k X hX
              have hnew := HL.out.2.2.1 (f : Int) k X hX
              have hbf := HL.out.2.2.2 (f : Int) (i : Int) k X hX
              have hlen := usAt_le L i k
              rw [HL.out.1] at hlen
              obtain ⟨xk, xi, ⟨xc, x0, x1, x2, x3, xt⟩, xps, xn, xo⟩ := X
              simp only [] at hkd hps hold htk
              subst hps
              have d0 := HW.out.cell (j := 0) (v := .int .i64 xk) hX (by omega) rfl
              have d1 := HW.out.cell (j := 1) (v := .int .i64 xi) hX (by omega) rfl
              have d2 := HW.out.cell (j := 2) (v := .int .i64 xc) hX (by omega) rfl
              have d3 := HW.out.cell (j := 3) (v := .int .i64 x0) hX (by omega) rfl
              have d4 := HW.out.cell (j := 4) (v := .int .i64 x1) hX (by omega) rfl
              have d5 := HW.out.cell (j := 5) (v := .int .i64 x2) hX (by omega) rfl
              have d6 := HW.out.cell (j := 6) (v := .int .i64 x3) hX (by omega) rfl
              have d7 := HW.out.cell (j := 7) (v := .int .i64 xt) hX (by omega) rfl
              have d8 := HW.out.cell (j := 8) (v := .slice none 0 0) hX (by omega) rfl
              have d9 := HW.out.cell (j := 9) (v := .int .i64 xn) hX (by omega) rfl
              have d10 := HW.out.cell (j := 10) (v := .int .i64 xo) hX (by omega) rfl
              rw [Nat.add_zero] at d0
              have ll := HW.out.blk.lt
              have e1 : IntKind.i64.wrap (xo + (i : Int)) = xo + (i : Int) := by rw [IntKind.wrap_i64]; omega
              have e2 : IntKind.i64.wrap (xt + (i : Int)) = xt + (i : Int) := by rw [IntKind.wrap_i64]; omega
              have HN := hide (fun W (hf : Fr [] wr W) => note_lit2 hK (H0.out.fr0 (HW.out.fr.trans hf)) (HW.out.jr.fr0 hf) (Nat.le_trans HW.out.fr.size hf.size) (by rw [fsts_len]; omega) (by omega) (by omega) (show (usAt L i k).length ≤ 65536 by omega) (k := xk) (id := xi) (c := xc) (v0 := x0) (v1 := x1) (v2 := x2) (v3 := x3) (t := xt + i) (n := xn) (old := xo + i) (by omega) (by omega))
              have HX := hide (And.intro hX (And.intro hnew hbf))
              clear hX hnew hbf
              go_wp2_with fail
              refine (HN.out _ ((Fr.refl _ _).alloc _)).mono ?_
              rintro e w5 hp
              have hp2 : ∃ S5, e = .returned .nilIface ∧ OW w g lb L (fsts L f ++ [⟨(f : Int), usAt L i (k + 1)⟩]) ((5 * f + (usAt L i (k + 1)).length : Nat) : Int) S5 w5 := by
                have hW := HW.out.fr0 ((Fr.refl [] wr).alloc (.cells #[.int .i64 xk, .int .i64 xi, .int .i64 xc, .int .i64 x0, .int .i64 x1, .int .i64 x2, .int .i64 x3, .int .i64 (xt + i), .slice none 0 0, .int .i64 xn, .int .i64 (xo + i)] 37))
                obtain ⟨q1, q2, q3⟩ := HX.out
                by_cases hz : i = 0
                · subst hz
                  rw [bump_zero] at q2
                  rw [show xt + ((0 : Nat) : Int) = xt from Int.add_zero _, show xo + ((0 : Nat) : Int) = xo from Int.add_zero _] at hp hW
                  rw [usAt_step q1]
                  rw [← usAt_zero] at q2
                  rcases hp with ⟨h1, -, -⟩ | ⟨-, h1, -⟩ | ⟨-, -, rfl, S5, hj, hst⟩
                  · rw [q2] at h1; cases h1
                  · omega
                  · refine ⟨S5, rfl, hW.stp ?_ hst⟩
                    rw [List.length_append, List.length_singleton, ← Nat.add_assoc]
                    exact hj
                · rw [usAt_pos hz]
                  rw [usAt_pos hz] at hp hW
                  rcases hp with ⟨-, rfl, hf⟩ | ⟨h1, -, -⟩ | ⟨h1, -⟩
                  · exact ⟨S, rfl, hW.fr0 hf⟩
                  · exact absurd (h1.symm.trans q3) (by simp)
                  · exact absurd (h1.symm.trans q3) (by simp)
              obtain ⟨S5, rfl, hw5⟩ := hp2
              have H5 := hide hw5
              clear hw5 hp HN HX HW d0 d1 d2 d3 d4 d5 d6 d7 d8 d9 d10 ll
              go_wp2_with fail
              go_roundw
              case rel => exact ⟨k + 1, S5, by omega, by go_num, H5.out⟩
              case measure => simp [intOf]; omega
            · obtain rfl : k = 5 := by omega
              have hall : usAt L i 5 = L := by have := usAt_all (L := L) i; rwa [HL.out.1] at this
              have H5 := hide (show OW w g lb L (fsts L f ++ [⟨(f : Int), usAt L (i + 1) 0⟩]) ((5 * f + (usAt L (i + 1) 0).length : Nat) : Int) S wr by
                have := HW.out
                rw [hall] at this
                rw [usAt_pos (by omega)]
                exact this)
              clear HW hk hall
              simp only [show ((5 : Nat) : Int) = 5 from rfl]
              go_wp2_with fail
              go_roundw
              case rel => exact ⟨i + 1, S, by omega, by go_num, H5.out⟩
              case measure => simp [intOf]; omega
        · obtain rfl : i = 1 + r := by omega
          have hw := HW.out
          rw [usAt_pos (by omega), HL.out.1] at hw
          have h5 : ((5 * f + 5 : Nat) : Int) = 5 * ((f : Int) + 1) := by omega
          rw [h5] at hw
          have e3 : IntKind.i64.wrap (5 * ((f : Int) + 1)) = 5 * ((f : Int) + 1) := by rw [IntKind.wrap_i64]; omega
          have e4 : IntKind.i64.wrap ((f : Int) + 1) = (f : Int) + 1 := by rw [IntKind.wrap_i64]; omega
          have hSi := since_calls hK (H0.out.fr0 hw.fr) hw.jr (by rw [List.length_append, fsts_len]; simp; omega) (fun s hs => by
            have : s.us = L := by
              rcases List.mem_append.1 hs with hs | hs
              · obtain ⟨_, _, rfl⟩ := List.mem_map.1 hs; rfl
              · rw [List.mem_singleton] at hs; rw [hs]
            rw [this, HL.out.1]; omega) (f : Int)
          unfold SincePost at hSi
          rw [fsts_place L L (by omega)] at hSi
          simp only [] at hSi
          rw [show (fsts L f ++ [(⟨(f : Int), L⟩ : St)]).drop f = [⟨(f : Int), L⟩] by rw [List.drop_append, fsts_len, List.drop_eq_nil_of_le (by rw [fsts_len]; exact Nat.le_refl _), Nat.sub_self]; rfl, show sinceU [(⟨(f : Int), L⟩ : St)] = L.reverse by simp [sinceU]] at hSi
          have HS := hide hSi
          have H6 := hide hw
          clear hSi hw HW hir hi
          have c1r : ((1 + r : Nat) : Int) = 1 + (r : Int) := by omega
          simp only [c1r]
          go_wp2_with fail
          refine HS.out.mono ?_
          rintro e w6 ⟨v, rfl, hv, hf⟩
          have hrl : L.reverse.length = 5 := by rw [List.length_reverse]; exact HL.out.1
          obtain ⟨A9, c9, rfl⟩ := hv.form
          rw [hrl] at hv ⊢
          have HLen := hide (len_calls (H6.out.jr.fr0 hf))
          have H7 := hide (And.intro (H6.out.fr0 hf) hv)
          clear hv hf HS H6 hrl
          go_wp2_with fail
          refine HLen.out.mono ?_
          rintro e w' ⟨rfl, rfl⟩
          go_wp2_with fail
          clear HLen
          go_loopw [15] (fun s15 wx => ∃ k : Nat, k ≤ 5 ∧ s15 = .int .i64 k ∧ Fr [] w6 wx) (fun s15 _ => 5 - (intOf s15).toNat)
          case atStart => exact ⟨0, by omega, rfl, Fr.refl _ _⟩
          case round =>
            obtain ⟨k, hk, rfl, hf⟩ := hrel
            have HX := hide (And.intro (H7.out.1.fr0 hf) (H7.out.2.keep hf (by simp)))
            have Hf := hide hf
            clear hf
            have k0 : (0 : Int) ≤ (k : Int) := by omega
            by_cases hk5 : k < 5
            · have k1 : (k : Int) < 5 := by omega
              obtain ⟨m, hm⟩ : ∃ m, m = 4 - k := ⟨_, rfl⟩
              have hm4 : m < 5 := by omega
              have m0 : (0 : Int) ≤ (m : Int) := by omega
              have m1 : (m : Int) < 5 := by omega
              have hmw : IntKind.i64.wrap (4 - (k : Int)) = (m : Int) := by rw [IntKind.wrap_i64]; omega
              have hm5 : IntKind.i64.wrap 4 = 4 := by decide
              obtain ⟨X, hX⟩ : ∃ X, L[m]? = some X := ⟨_, List.getElem?_eq_getElem (by rw [HL.out.1]; exact hm4)⟩
              have hrev : L.reverse[k]? = some X := by rw [List.getElem?_reverse (by rw [HL.out.1]; exact hk5), HL.out.1, show 5 - 1 - k = m by omega]; exact hX
              obtain ⟨ds, h1, h2, h3⟩ := HX.out.2
              rw [← h2, List.getElem?_map] at hrev
              obtain ⟨d, hd, rfl⟩ := Option.map_eq_some_iff.1 hrev
              have hps := (HL.out.2.1 m _ hX).2.1
              have hok := h3 d (List.mem_of_getElem? hd)
              obtain ⟨ga, rfl⟩ : ∃ ga, A9 = some ⟨ga, 0, none⟩ := by
                rcases row_form h1 with ⟨_, h0, _⟩ | ⟨gp, cp, h1, _⟩
                · rw [List.length_reverse, HL.out.1] at h0; omega
                · injection h1 with h1 _ _; exact ⟨gp, h1⟩
              have hlen5 : L.reverse.length = 5 := by rw [List.length_reverse]; exact HL.out.1
              rw [hlen5] at h1
              have la := (row_lt h1 (k := ga) rfl).1
              have hc : ∀ j v, j < 11 → (Ud.cells d)[j]? = some v → wr.cell? ⟨ga, k * 11 + j, none⟩ = some v := fun j v hj hv => row_cell h1 (by rw [flat_get Ud.cells_len hd j hj]; exact hv)
              have ll := HX.out.1.blk.lt
              have hcl : ∀ j v, j < 11 → (Ud.cells ⟨d.u, none, 0⟩)[j]? = some v → wr.cell? ⟨lb, m * 11 + j, none⟩ = some v := fun j v hj hv => HX.out.1.cell hX hj hv
              have HSm := hide (fun W (hf : Fr [] wr W) => same_u (hok.fr0 hf) (PsOk.empty (good := fun _ => True) (w := W) (A := none) (c := 0) (u := d.u) hps (fun _ => rfl)) rfl)
              clear hrev h1 h2 h3 hd hX hok hm
              obtain ⟨⟨xk, xi, ⟨xc, x0, x1, x2, x3, xt⟩, xps, xn, xo⟩, xA, xcp⟩ := d
              simp only [] at hps
              subst hps
              have d0 := hc 0 (.int .i64 xk) (by omega) rfl
              have d1 := hc 1 (.int .i64 xi) (by omega) rfl
              have d2 := hc 2 (.int .i64 xc) (by omega) rfl
              have d3 := hc 3 (.int .i64 x0) (by omega) rfl
              have d4 := hc 4 (.int .i64 x1) (by omega) rfl
              have d5 := hc 5 (.int .i64 x2) (by omega) rfl
              have d6 := hc 6 (.int .i64 x3) (by omega) rfl
              have d7 := hc 7 (.int .i64 xt) (by omega) rfl
              have d8 := hc 8 (.slice xA 0 xcp) (by omega) rfl
              have d9 := hc 9 (.int .i64 xn) (by omega) rfl
              have d10 := hc 10 (.int .i64 xo) (by omega) rfl
              rw [Nat.add_zero] at d0
              have l0 := hcl 0 (.int .i64 xk) (by omega) rfl
              have l1 := hcl 1 (.int .i64 xi) (by omega) rfl
              have l2 := hcl 2 (.int .i64 xc) (by omega) rfl
              have l3 := hcl 3 (.int .i64 x0) (by omega) rfl
              have l4 := hcl 4 (.int .i64 x1) (by omega) rfl
              have l5 := hcl 5 (.int .i64 x2) (by omega) rfl
              have l6 := hcl 6 (.int .i64 x3) (by omega) rfl
              have l7 := hcl 7 (.int .i64 xt) (by omega) rfl
              have l8 := hcl 8 (.slice none 0 0) (by omega) rfl
              have l9 := hcl 9 (.int .i64 xn) (by omega) rfl
              have l10 := hcl 10 (.int .i64 xo) (by omega) rfl
              rw [Nat.add_zero] at l0
              clear hc hcl
              go_wp2_with fail
              go_still_tail 12, (by kernel_rfl)
              change wpList _ _ _ _ _ wr.drew
              go_wp2_with fail
              refine (HSm.out _ ((Fr.refl _ _).drew)).mono ?_
              rintro e w9 ⟨rfl, hf9⟩
              have H9 := hide (Hf.out.trans (((Fr.refl [] wr).drew).trans hf9))
              clear hf9 HSm d0 d1 d2 d3 d4 d5 d6 d7 d8 d9 d10 l0 l1 l2 l3 l4 l5 l6 l7 l8 l9 l10 la ll
              go_wp2_with fail
              go_roundw
              case rel => exact ⟨k + 1, by omega, by go_num, H9.out⟩
              case measure => simp [intOf]; omega
            · obtain rfl : k = 5 := by omega
              have h8 : OW w g lb L (fsts L (f + 1)) ((5 * (f + 1) : Nat) : Int) S wr := by
                have := HX.out.1
                rw [fsts_succ]
                exact this
              have H8 := hide h8
              clear h8 HX H7
              simp only [show ((5 : Nat) : Int) = 5 from rfl]
              go_wp2_with fail
              go_roundw
              case rel => exact ⟨f + 1, S, by omega, by go_num, H8.out⟩
              case measure => simp [intOf]; omega
    · obtain rfl : f = 2 := by omega
      simp only [show ((2 : Nat) : Int) = 2 from rfl]
      have H9 := hide HW.out.fr
      clear HW
      go_wp2_with fail
      go_ret
      exact ⟨rfl, H9.out.below (by simp) (Nat.le_refl _)⟩
end Go.Proofs.YtioeafjlbdpjoaaDoor

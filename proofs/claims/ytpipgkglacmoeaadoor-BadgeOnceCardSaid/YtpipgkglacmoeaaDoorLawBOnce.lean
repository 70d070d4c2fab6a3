/- BadgeOnce: the walk of the law. -/
import Derived.Test.YtpipgkglacmoeaaDoorBAct
import Derived.Deep.CutBlock
import Derived.Deep.DeepCutAuto
namespace Go.Proofs.YtpipgkglacmoeaaDoor
open Go.RowKit
theorem ints_at {ds : List Int} {k : Nat} {d : Int} (h : ds[k]? = some d) : (ints ds)[k]? = some (.int .i64 d) := by
  unfold ints; rw [List.getElem?_map, h]; rfl
set_option maxRecDepth 100000 in
set_option maxHeartbeats 16000000 in
theorem once_walk {K : List Nat} {w : World} {ad : Nat → Addr} (hs : Sents K w.heap.size w ad) (h1 : 1 ∈ K) (h6 : 6 ∈ K) (h7 : 7 ∈ K) (h9 : 9 ∈ K) (A : Option Addr) (len c : Nat) (l : List Ac) (hl : l.length = len) (hlen : len ≤ maxLen)
    (hr : Reads w w.heap.size 4 A len (l.flatMap encA)) :
    Calls Tryd.prog 3 #[.slice A len c] w fun e w' => e = .returned (.bool true) ∧ Below w.heap.size w w' := by
  unfold maxLen at hlen
  have C0 := Cx.start hs
  have HA := hide (awake_calls C0 h1 h6 h7 h9)
  have H0 := hide C0
  have Hr := hide hr
  have Hl := hide hl
  clear hs hr hl C0
  go_enter Tryd.func3, Tryd.ntmps3
  go_wp2_with fail
  refine HA.out.mono ?_
  rintro e w1 ⟨rfl, hf⟩
  have C1 := hide (H0.out.fr0 hf)
  clear hf HA H0
  go_wp2_with fail
  refine (CB.new C1.out).mono ?_
  rintro e w2 ⟨g, rfl, hc⟩
  have C2 : Hid (CN K ad w w2 g 0 []) := hide ⟨_, _, _, hc, Nat.le_refl _⟩
  clear hc C1
  go_wp2_with fail
  go_loopw [4] (fun s4 wr => ∃ i : Nat, i ≤ len ∧ i ≤ 200 ∧ s4 = .int .i64 i ∧ CN K ad w wr g i []) (fun s4 _ => len - (intOf s4).toNat)
  case atStart => exact ⟨0, by omega, by omega, rfl, C2.out⟩
  case round =>
    obtain ⟨i, hi, hi2, rfl, hc⟩ := hrel
    clear C2
    have H := hide hc
    clear hc
    by_cases hil : i < len
    · have i1 : (i : Int) < (len : Int) := by omega
      by_cases hi200 : i < 200
      · have i2 : (i : Int) < 200 := by omega
        obtain ⟨x, hx⟩ : ∃ x, l[i]? = some x := ⟨l[i]'(by have := Hl.out; omega), by simp⟩
        obtain ⟨bA, oA, rfl, hbA, hcA⟩ := Hr.out.at_ encA_len hx Hl.out
        have hfr : Fr [] w wr := H.out.elim fun ps h => h.elim fun ds h => h.elim fun nx h => h.1.fr
        have hbw := hfr.below (B := w.heap.size) (by simp) (Nat.le_refl _)
        have hw := hfr.size
        have a0 := (hbw.cell (p := ⟨bA, oA + (i * 4 + 0), none⟩) hbA).trans (hcA 0 (.int .i64 x.k) rfl)
        have a1 := (hbw.cell (p := ⟨bA, oA + (i * 4 + 1), none⟩) hbA).trans (hcA 1 (.int .i64 x.e1) rfl)
        have a2 := (hbw.cell (p := ⟨bA, oA + (i * 4 + 2), none⟩) hbA).trans (hcA 2 (.int .i64 x.e2) rfl)
        have a3 := (hbw.cell (p := ⟨bA, oA + (i * 4 + 3), none⟩) hbA).trans (hcA 3 (.int .i64 x.n) rfl)
        rw [Nat.add_zero] at a0
        rw [← Nat.add_assoc] at a1 a2 a3
        have lb : bA < wr.heap.size := by omega
        obtain ⟨k, e1, e2, nn⟩ := x
        simp only at a0 a1 a2 a3
        clear hcA hbw hfr hx
        have HB := hide (H.out.fr0 ((Fr.refl [] wr).alloc (.cells #[.int .i64 k, .int .i64 e1, .int .i64 e2, .int .i64 nn] 29)))
        clear H
        go_upto_block 2 with (fail)
        go_cut [] (fun w' => CN K ad w w' g (i + 1) [])
        case first =>
          by_cases hk1 : k = 1
          · have e1' : (k == 1) = true := by simpa using hk1
            clear hk1
            go_wp2_with fail
            refine (HB.out.give (by omega) h9 h6 (e1, e2)).mono ?_
            rintro e w5 ⟨⟨v, rfl⟩, hc⟩
            have HC := hide hc
            clear hc
            go_wp2_with fail
            go_meet
            exact HC.out
          have f1 : (k == 1) = false := by simpa using hk1
          by_cases hk2 : k = 2
          · have e1' : (k == 2) = true := by simpa using hk2
            clear hk1 hk2
            go_wp2_with fail
            refine (HB.out.pin (by omega) h9 h1 nn (e1, e2)).mono ?_
            rintro e w5 ⟨⟨v, rfl⟩, hc⟩
            have HC := hide hc
            clear hc
            go_wp2_with fail
            go_meet
            exact HC.out
          have f2 : (k == 2) = false := by simpa using hk2
          by_cases hk3 : k = 3
          · have e1' : (k == 3) = true := by simpa using hk3
            clear hk1 hk2 hk3
            go_wp2_with fail
            refine (HB.out.drop (by omega) h7 nn).mono ?_
            rintro e w5 ⟨⟨v, rfl⟩, hc⟩
            have HC := hide hc
            clear hc
            go_wp2_with fail
            go_meet
            exact HC.out
          have f3 : (k == 3) = false := by simpa using hk3
          clear hk1 hk2 hk3
          go_wp2_with fail
          refine (HB.out.turn (by omega) h1 nn).mono ?_
          rintro e w5 ⟨⟨v, rfl⟩, hc⟩
          have HC := hide hc
          clear hc
          go_wp2_with fail
          go_meet
          exact HC.out
        case rest hcut =>
          obtain ⟨ps, ds, nx, hc, hdl⟩ := hcut
          have HC := hide hc
          clear hc HB a0 a1 a2 a3
          go_wp2_with fail
          refine (HC.out.list (by omega)).mono ?_
          rintro e w6 ⟨v6, rfl, hr6, hc, -⟩
          obtain ⟨A6, c6, rfl⟩ : ∃ A c, v6 = .slice A ds.length c := by
            rcases row_form hr6 with ⟨rfl, h0, _⟩ | ⟨g, cap, rfl, _⟩
            · exact ⟨none, 0, by rw [h0]⟩
            · exact ⟨_, _, rfl⟩
          have H6 := hide (And.intro hr6 hc)
          clear hr6 hc HC
          go_wp2_with fail
          refine (H6.out.2.len).mono ?_
          rintro e w7 ⟨rfl, rfl⟩
          go_wp2_with fail
          go_loopw [7] (fun s7 w' => ∃ j : Nat, j ≤ ds.length ∧ s7 = .int .i64 j ∧ Fr [] w6 w') (fun s7 _ => ds.length - (intOf s7).toNat)
          case atStart => exact ⟨0, by omega, rfl, Fr.refl _ _⟩
          case round =>
            obtain ⟨j, hj, rfl, hf⟩ := hrel
            by_cases hjl : j < ds.length
            · obtain ⟨d, hd⟩ : ∃ d, ds[j]? = some d := ⟨_, List.getElem?_eq_getElem hjl⟩
              obtain ⟨e, ho, hid, hd1, hd2, hprev⟩ := H6.out.2.good.look hd
              have hrw := row_fr H6.out.1 hf (by simp)
              rcases row_form hrw with ⟨_, h0, _⟩ | ⟨g6, cap6, hv6, _, lg6, _, _⟩
              · omega
              have hA : A6 = some ⟨g6, 0, none⟩ := by injection hv6
              subst hA
              have c0 := row_cell hrw (ints_at hd)
              have j0 : (0 : Int) ≤ (j : Int) := by omega
              have j1 : (j : Int) < (ds.length : Int) := by omega
              have HE := hide ((H6.out.2.fr0 hf).entity d)
              rw [ho, Option.getD_some, Option.isSome_some] at HE
              have Hid' := hide hid
              have Hf := hide hf
              have Hrow := hide H6.out.1
              have k1 : ¬ d < 1 := by omega
              have k2 : ¬ nx ≤ d := by omega
              obtain ⟨e1', e2'⟩ := e
              simp only [encE] at HE
              clear hid hf ho hrw hv6
              rcases Nat.eq_zero_or_pos j with hz | hz
              · subst hz
                clear hprev
                have hdf : decide ((0 : Int) < 0) = false := rfl
                go_wp2_with fail
                refine HE.out.mono ?_
                rintro e w8 ⟨rfl, hc, hf8⟩
                have c1 := row_cell (row_fr Hrow.out ((Hf.out.trans hf8).alloc (.cells #[.int .i64 e1', .int .i64 e2'] 27)) (by simp)) (ints_at hd)
                have H8 := hide (And.intro (hc.alloc 27 #[.int .i64 e1', .int .i64 e2']) ((Hf.out.trans hf8).alloc (.cells #[.int .i64 e1', .int .i64 e2'] 27)))
                clear hc hf8
                go_wp2_with fail
                refine (H8.out.1.id (e1', e2')).mono ?_
                rintro e w9 ⟨rfl, hc, hf9⟩
                rw [Hid'.out, Option.getD_some, Option.isSome_some]
                have hf9' := H8.out.2.trans hf9
                have c2 := row_cell (row_fr Hrow.out hf9' (by simp)) (ints_at hd)
                have lg9 := World.block_lt_of_cell? w9 _ c2
                have H9 := hide (And.intro hc hf9')
                clear hc hf9 hf9' H8 c0 c1
                go_wp2_with fail
                refine (H9.out.1.next).mono ?_
                rintro e w10 ⟨rfl, rfl⟩
                go_wp2_with fail
                go_roundw
                case rel => exact ⟨1, by omega, by go_num, H9.out.2⟩
                case measure => simp [intOf]; omega
              · obtain ⟨m, rfl⟩ : ∃ m, j = m + 1 := ⟨j - 1, by omega⟩
                obtain ⟨d', hd'⟩ : ∃ d', ds[m]? = some d' := ⟨_, List.getElem?_eq_getElem (by omega)⟩
                have k3 := hprev m d' rfl hd'
                have k4 : ¬ d ≤ d' := by omega
                have m0 : (0 : Int) ≤ (m : Int) := by omega
                have m1 : (0 : Int) < ((m + 1 : Nat) : Int) := by omega
                have m2 : ((m + 1 : Nat) : Int) - 1 = (m : Int) := by omega
                have m3 : (m : Int) < (ds.length : Int) := by omega
                clear hprev
                go_wp2_with fail
                refine HE.out.mono ?_
                rintro e w8 ⟨rfl, hc, hf8⟩
                have H8 := hide (And.intro (hc.alloc 27 #[.int .i64 e1', .int .i64 e2']) ((Hf.out.trans hf8).alloc (.cells #[.int .i64 e1', .int .i64 e2'] 27)))
                clear hc hf8
                go_wp2_with fail
                refine (H8.out.1.id (e1', e2')).mono ?_
                rintro e w9 ⟨rfl, hc, hf9⟩
                rw [Hid'.out, Option.getD_some, Option.isSome_some]
                have hf9' := H8.out.2.trans hf9
                have c2 := row_cell (row_fr Hrow.out hf9' (by simp)) (ints_at hd)
                have c3 := row_cell (row_fr Hrow.out hf9' (by simp)) (ints_at hd')
                have lg9 := World.block_lt_of_cell? w9 _ c2
                have H9 := hide (And.intro hc hf9')
                clear hc hf9 hf9' H8 c0
                go_wp2_with fail
                refine (H9.out.1.next).mono ?_
                rintro e w10 ⟨rfl, rfl⟩
                go_wp2_with fail
                go_roundw
                case rel => exact ⟨m + 1 + 1, by omega, by go_num, H9.out.2⟩
                case measure => simp [intOf]; omega
            · obtain rfl : j = ds.length := by omega
              have Hf := hide hf
              clear hf
              have jj : ¬ (ds.length : Int) < (ds.length : Int) := by omega
              go_wp2_with fail
              go_roundw
              case rel => exact ⟨i + 1, by omega, by omega, by go_num, ps, ds, nx, H6.out.2.fr0 Hf.out, hdl⟩
              case measure => simp [intOf]; omega
      · obtain rfl : i = 200 := by omega
        have i2 : ¬ ((200 : Nat) : Int) < 200 := by omega
        go_wp2_with fail
        go_ret
        obtain ⟨ps, ds, nx, hc, -⟩ := H.out
        exact ⟨rfl, hc.fr.below (by simp) (Nat.le_refl _)⟩
    · have i1 : ¬ (i : Int) < (len : Int) := by omega
      go_wp2_with fail
      go_ret
      obtain ⟨ps, ds, nx, hc, -⟩ := H.out
      exact ⟨rfl, hc.fr.below (by simp) (Nat.le_refl _)⟩
end Go.Proofs.YtpipgkglacmoeaaDoor

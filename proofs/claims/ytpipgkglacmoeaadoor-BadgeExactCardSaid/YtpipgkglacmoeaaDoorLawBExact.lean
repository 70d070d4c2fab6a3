/- BadgeExact: the walk of the law. -/
import Derived.Test.YtpipgkglacmoeaaDoorExB2
import Derived.Test.YtpipgkglacmoeaaDoorBAct
import Derived.Deep.CutBlock
import Derived.Deep.DeepCutAuto
namespace Go.Proofs.YtpipgkglacmoeaaDoor
open Go.RowKit
def NB (ad : Nat → Addr) (w0 w : World) (g u n : Nat) (L : Loc) : Prop := ∃ ps ds nx ls, XB ad w0 w g u ps ds nx ls nx L ∧ RelP ps ds ls ∧ ds.length ≤ n
theorem NB.frame {ad : Nat → Addr} {w0 w : World} {g u n : Nat} {L : Loc} (h : NB ad w0 w g u n L) : Fr [] w0 w := by
  obtain ⟨ps, ds, nx, ls, h, -⟩ := h
  exact h.frame
set_option maxRecDepth 100000 in
set_option maxHeartbeats 16000000 in
theorem exact_walk {w : World} {ad : Nat → Addr} (hs : Sents All18 w.heap.size w ad) (A : Option Addr) (len c : Nat) (l : List Ac) (hl : l.length = len) (hlen : len ≤ maxLen)
    (hr : Reads w w.heap.size 4 A len (l.flatMap encA)) :
    Calls Tryd.prog 6 #[.slice A len c] w fun e w' => e = .returned (.bool true) ∧ Below w.heap.size w w' := by
  unfold maxLen at hlen
  have C0 := Cx.start hs
  have HA := hide (awake_calls C0 (mem_all18 (by omega) (by omega)) (mem_all18 (by omega) (by omega)) (mem_all18 (by omega) (by omega)) (mem_all18 (by omega) (by omega)))
  have H0 := hide C0
  have Hr := hide hr
  have Hl := hide hl
  clear hs hr hl C0
  go_enter Tryd.func6, Tryd.ntmps6
  go_wp2_with fail
  refine HA.out.mono ?_
  rintro e w1 ⟨rfl, hf⟩
  have C1 := hide (H0.out.fr0 hf)
  clear hf HA H0
  go_wp2_with fail
  refine (CB.new C1.out).mono ?_
  rintro e w2 ⟨g, rfl, hc⟩
  have C2 := hide hc
  clear hc C1
  go_wp2_with fail
  refine (XB.start C2.out).mono ?_
  rintro e w3 ⟨u, rfl, hc⟩
  have C3 : Hid (NB ad w w3 g u 0 []) := hide ⟨[], [], 1, [], hc, RelP.start, Nat.le_refl _⟩
  clear hc C2
  go_wp2_with fail
  go_loopw [5] (fun s5 wr => ∃ i : Nat, i ≤ len ∧ i ≤ 200 ∧ s5 = .int .i64 i ∧ NB ad w wr g u i []) (fun s5 _ => len - (intOf s5).toNat)
  case atStart => exact ⟨0, by omega, by omega, rfl, C3.out⟩
  case round =>
    obtain ⟨i, hi, hi2, rfl, hc⟩ := hrel
    clear C3
    have H := hide hc
    clear hc
    by_cases hil : i < len
    · have i1 : (i : Int) < (len : Int) := by omega
      by_cases hi200 : i < 200
      · have i2 : (i : Int) < 200 := by omega
        obtain ⟨x, hx⟩ : ∃ x, l[i]? = some x := ⟨l[i]'(by have := Hl.out; omega), by simp⟩
        obtain ⟨bA, oA, rfl, hbA, hcA⟩ := Hr.out.at_ encA_len hx Hl.out
        have hfr : Fr [] w wr := H.out.frame
        have hbw := hfr.below (B := w.heap.size) (by simp) (Nat.le_refl _)
        have hw := hfr.size
        have a0 := (hbw.cell (p := ⟨bA, oA + (i * 4 + 0), none⟩) hbA).trans (hcA 0 (.int .i64 x.k) rfl)
        have a1 := (hbw.cell (p := ⟨bA, oA + (i * 4 + 1), none⟩) hbA).trans (hcA 1 (.int .i64 x.e1) rfl)
        have a2 := (hbw.cell (p := ⟨bA, oA + (i * 4 + 2), none⟩) hbA).trans (hcA 2 (.int .i64 x.e2) rfl)
        have a3 := (hbw.cell (p := ⟨bA, oA + (i * 4 + 3), none⟩) hbA).trans (hcA 3 (.int .i64 x.n) rfl)
        rw [Nat.add_zero] at a0
        rw [← Nat.add_assoc] at a1 a2 a3
        have lb : bA < wr.heap.size := by omega
        obtain ⟨k, e1, e2, nn⟩ := x
        simp only at a0 a1 a2 a3
        clear hcA hbw hfr hx
        have HB : Hid (∃ ps ds nx ls, XB ad w (wr.alloc (.cells #[.int .i64 k, .int .i64 e1, .int .i64 e2, .int .i64 nn] 29)) g u ps ds nx ls nx [(wr.heap.size, 29, #[.int .i64 k, .int .i64 e1, .int .i64 e2, .int .i64 nn])] ∧ RelP ps ds ls ∧ ds.length ≤ i) := by
          obtain ⟨ps, ds, nx, ls, h1, h2, h3⟩ := H.out
          refine ⟨ps, ds, nx, ls, ?_, h2, h3⟩
          exact h1.more ((Fr.refl [] wr).alloc _) (L' := [(wr.heap.size, 29, #[.int .i64 k, .int .i64 e1, .int .i64 e2, .int .i64 nn])]) (by
            intro x hx
            obtain rfl := List.mem_singleton.mp hx
            exact ⟨Blk.new _ _ _, Nat.le_refl _⟩)
        clear H
        go_upto_block 2 with (fail)
        generalize World.alloc wr _ = w4 at HB ⊢
        obtain ⟨ps, ds, nx, ls, hX, hR, hn⟩ := HB.out
        have HX := hide hX
        have HR := hide hR
        have HN := hide hn
        have hact := hX.blk (b := wr.heap.size) (t := 29) (cs := #[.int .i64 k, .int .i64 e1, .int .i64 e2, .int .i64 nn]) (by simp)
        have c1 := hact.at_ 1 (v := .int .i64 e1) rfl
        have c2 := hact.at_ 2 (v := .int .i64 e2) rfl
        have c3 := hact.at_ 3 (v := .int .i64 nn) rfl
        have lc := hact.lt
        clear hact hX hR hn HB a0 a1 a2 a3 lb
        go_cut [7, 8] (fun v7 v8 w' => ∃ k' : Nat, v8 = .int .i64 k' ∧ ZV ad w w' g u (i + 1) [(wr.heap.size, 29, #[.int .i64 k, .int .i64 e1, .int .i64 e2, .int .i64 nn])] v7 k')
        case first =>
          by_cases hk1 : k = 1
          · have e1' : (k == 1) = true := by simpa using hk1
            clear hk1
            go_wp2_with fail
            refine (HX.out.give HR.out HN.out (by omega) (e1, e2)).mono ?_
            rintro e w5 ⟨r, v, k', rfl, hb, ht⟩
            have hact := hb (wr.heap.size, 29, #[.int .i64 k, .int .i64 e1, .int .i64 e2, .int .i64 nn]) (by simp)
            have c1' := hact.at_ 1 (v := .int .i64 e1) rfl
            have c2' := hact.at_ 2 (v := .int .i64 e2) rfl
            have lc' := hact.lt
            have HT := hide ht
            clear hb ht hact c1 c2 c3 lc
            go_wp2_with fail
            refine (HT.out w5 [] (Fr.refl _ _) (by simp)).mono ?_
            rintro e w6 ⟨rfl, hz⟩
            have HZ := hide hz
            clear hz
            go_wp2_with fail
            go_meet
            exact ⟨k', rfl, HZ.out⟩
          have f1 : (k == 1) = false := by simpa using hk1
          by_cases hk2 : k = 2
          · have e1' : (k == 2) = true := by simpa using hk2
            clear hk1 hk2
            go_wp2_with fail
            refine (HX.out.pin HR.out HN.out (by omega) nn (e1, e2)).mono ?_
            rintro e w5 ⟨v, k', rfl, hb, ht⟩
            have hact := hb (wr.heap.size, 29, #[.int .i64 k, .int .i64 e1, .int .i64 e2, .int .i64 nn]) (by simp)
            have c1' := hact.at_ 1 (v := .int .i64 e1) rfl
            have c2' := hact.at_ 2 (v := .int .i64 e2) rfl
            have c3' := hact.at_ 3 (v := .int .i64 nn) rfl
            have lc' := hact.lt
            have HT := hide ht
            clear hb ht hact c1 c2 c3 lc
            go_wp2_with fail
            refine (HT.out w5 [] (Fr.refl _ _) (by simp)).mono ?_
            rintro e w6 ⟨rfl, hz⟩
            have HZ := hide hz
            clear hz
            go_wp2_with fail
            go_meet
            exact ⟨k', rfl, HZ.out⟩
          have f2 : (k == 2) = false := by simpa using hk2
          by_cases hk3 : k = 3
          · have e1' : (k == 3) = true := by simpa using hk3
            clear hk1 hk2 hk3
            go_wp2_with fail
            refine (HX.out.drop HR.out HN.out (by omega) nn).mono ?_
            rintro e w5 ⟨⟨r1, r2⟩, v, k', rfl, hb, ht⟩
            have hact := hb (wr.heap.size, 29, #[.int .i64 k, .int .i64 e1, .int .i64 e2, .int .i64 nn]) (by simp)
            have c3' := hact.at_ 3 (v := .int .i64 nn) rfl
            have lc' := hact.lt
            have hne : wr.heap.size ≠ w5.heap.size := by omega
            simp only [encE] at ht ⊢
            have HT := hide ht
            clear hb ht hact c1 c2 c3 lc
            go_wp2_with fail
            refine (HT.out (w5.alloc (.cells #[.int .i64 r1, .int .i64 r2] 27)) [(w5.heap.size, 27, #[.int .i64 r1, .int .i64 r2])] ((Fr.refl _ _).alloc _) (by
              intro x hx
              obtain rfl := List.mem_singleton.mp hx
              exact ⟨Blk.new _ _ _, Nat.le_refl _⟩)).mono ?_
            rintro e w6 ⟨rfl, hz⟩
            have hB := hz.blks (w5.heap.size, 27, #[.int .i64 r1, .int .i64 r2]) (by simp)
            have d0 := hB.at_ 0 (v := .int .i64 r1) rfl
            have d1 := hB.at_ 1 (v := .int .i64 r2) rfl
            have ld := hB.lt
            have hq : ∀ W, (binOp .neq 27 (.agg #[.int .i64 r1, .int .i64 r2]) (.agg #[.int .i64 r1, .int .i64 r2])).run Tryd.prog W = .ok (.bool false) W := fun W => by
              have := neq_ent (r1, r2) (r1, r2) W
              simpa [encE] using this
            have HZ := hide ((hz.sub (L' := [(wr.heap.size, 29, #[.int .i64 k, .int .i64 e1, .int .i64 e2, .int .i64 nn])]) (by intro x hx; exact List.mem_append_right _ hx)).fr0 ((Fr.refl [] w6).alloc (.cells #[.int .i64 r1, .int .i64 r2] 27)))
            clear hz hB
            go_wp2_with fail
            go_meet
            exact ⟨k', rfl, HZ.out⟩
          have f3 : (k == 3) = false := by simpa using hk3
          clear hk1 hk2 hk3
          go_wp2_with fail
          refine (HX.out.turn HR.out HN.out (by omega) nn).mono ?_
          rintro e w5 ⟨r, v, k', rfl, hb, ht⟩
          have hact := hb (wr.heap.size, 29, #[.int .i64 k, .int .i64 e1, .int .i64 e2, .int .i64 nn]) (by simp)
          have c3' := hact.at_ 3 (v := .int .i64 nn) rfl
          have lc' := hact.lt
          have HT := hide ht
          clear hb ht hact c1 c2 c3 lc
          go_wp2_with fail
          refine (HT.out w5 [] (Fr.refl _ _) (by simp)).mono ?_
          rintro e w6 ⟨rfl, hz⟩
          have HZ := hide hz
          clear hz
          go_wp2_with fail
          go_meet
          exact ⟨k', rfl, HZ.out⟩
        case rest hcut =>
          obtain ⟨k', rfl, ps', ds', nx', ls', hV, hR', hn'⟩ := hcut
          clear HX HR HN c1 c2 c3 lc
          have hX' := hV.xb
          have hact := hV.blks (wr.heap.size, 29, #[.int .i64 k, .int .i64 e1, .int .i64 e2, .int .i64 nn]) (by simp)
          have c1 := hact.at_ 1 (v := .int .i64 e1) rfl
          have c2 := hact.at_ 2 (v := .int .i64 e2) rfl
          have c3 := hact.at_ 3 (v := .int .i64 nn) rfl
          have lc := hact.lt
          have hll : ls'.length ≤ 1000000 := by have := hR'.len; omega
          have HE := hide (fun W (hf : Fr [] wc W) => (hX'.fr0 hf).entity nn)
          have HE' := hide (fun W (hf : Fr [] wc W) => (hX'.fr0 hf).rentity hll nn)
          rw [hR'.own hX'.good nn] at HE'
          have HI := hide (fun W (hf : Fr [] wc W) => (hX'.fr0 hf).id (e1, e2))
          have HI' := hide (fun W (hf : Fr [] wc W) => (hX'.fr0 hf).rid hll (e1, e2))
          rw [hR'.idq hX'.good (e1, e2)] at HI'
          generalize (ownOf ps' nn).getD (0, 0) = y at HE HE'
          obtain ⟨y1, y2⟩ := y
          generalize (ownOf ps' nn).isSome = o at HE HE'
          generalize (idOf ps' (e1, e2)).getD 0 = z at HI HI'
          generalize (idOf ps' (e1, e2)).isSome = p at HI HI'
          simp only [encE] at HE HE' HI HI'
          have HA := hide hact
          have HV := hide hV
          have HRl := hide hR'.len
          have HRn := hide (And.intro hR' hn')
          have HX' := hide hX'
          clear hact hV hR' hn' hX' hll
          go_wp2_with fail
          refine (HE.out _ (Fr.refl _ _)).mono ?_
          rintro e w8 ⟨rfl, hf8⟩
          have hact := HA.out.fr0 hf8
          have c3' := hact.at_ 3 (v := .int .i64 nn) rfl
          have lc' := hact.lt
          have Hf8 := hide (hf8.alloc (.cells #[.int .i64 y1, .int .i64 y2] 27))
          have Hb8 := hide (Blk.new w8 27 #[.int .i64 y1, .int .i64 y2])
          clear hf8 hact c1 c2 c3 lc
          go_wp2_with fail
          refine (HE'.out _ Hf8.out).mono ?_
          rintro e w9 ⟨rfl, hf9⟩
          have hf9' := Hf8.out.trans hf9
          have hact := HA.out.fr0 hf9'
          have c1 := hact.at_ 1 (v := .int .i64 e1) rfl
          have c2 := hact.at_ 2 (v := .int .i64 e2) rfl
          have lc := hact.lt
          have Hf9 := hide (hf9'.alloc (.cells #[.int .i64 y1, .int .i64 y2] 27))
          have Hb9 := hide (And.intro ((Hb8.out.fr0 hf9).alloc (.cells #[.int .i64 y1, .int .i64 y2] 27)) (Blk.new w9 27 #[.int .i64 y1, .int .i64 y2]))
          clear hf9 hf9' hact c3' lc' Hf8 Hb8
          go_wp2_with fail
          refine (HI.out _ Hf9.out).mono ?_
          rintro e w10 ⟨rfl, hf10⟩
          have hf10' := Hf9.out.trans hf10
          have hact := HA.out.fr0 hf10'
          have c1' := hact.at_ 1 (v := .int .i64 e1) rfl
          have c2' := hact.at_ 2 (v := .int .i64 e2) rfl
          have lc' := hact.lt
          have Hf10 := hide hf10'
          have Hb10 := hide (And.intro (Hb9.out.1.fr0 hf10) (Hb9.out.2.fr0 hf10))
          clear hf10 hf10' hact c1 c2 lc Hf9 Hb9
          go_wp2_with fail
          refine (HI'.out _ Hf10.out).mono ?_
          rintro e w11 ⟨rfl, hf11⟩
          have hf11' := Hf10.out.trans hf11
          have hb1 := Hb10.out.1.fr0 hf11
          have hb2 := Hb10.out.2.fr0 hf11
          have d0 := hb1.at_ 0 (v := .int .i64 y1) rfl
          have d1 := hb1.at_ 1 (v := .int .i64 y2) rfl
          have ld := hb1.lt
          have g0 := hb2.at_ 0 (v := .int .i64 y1) rfl
          have g1 := hb2.at_ 1 (v := .int .i64 y2) rfl
          have lg := hb2.lt
          obtain ⟨A', c', u0, u1, lu⟩ := (HX'.out.fr0 hf11').ucells
          rw [HRl.out] at u0
          have HV1 := hide (HV.out.fr0 hf11')
          have HNum := hide (fun n => (HV1.out.fr0 ((Fr.refl [] w11).drewN n)).number)
          have HNext := hide (fun n => (HV1.out.fr0 ((Fr.refl [] w11).drewN n)).xb.next)
          have HLen := hide (fun n => (HV1.out.fr0 ((Fr.refl [] w11).drewN n)).xb.len)
          have hq : ∀ W, (binOp .neq 27 (.agg #[.int .i64 y1, .int .i64 y2]) (.agg #[.int .i64 y1, .int .i64 y2])).run Tryd.prog W = .ok (.bool false) W := fun W => by
            have := neq_ent (y1, y2) (y1, y2) W
            simpa [encE] using this
          clear hf11 hf11' hb1 hb2 c1' c2' lc' Hf10 Hb10 HE HE' HI HI' HA HV
          go_wp2_with fail
          go_quiet (first
            | (go_at_call 26; exact Calls.quiet_of_same (HNum.out _))
            | (go_at_call 17; exact Calls.quiet_of_same (HNext.out _))
            | (go_at_call 14; exact Calls.quiet_of_same (HLen.out _)))
          go_wp2_with fail
          go_roundw
          case rel => exact ⟨i + 1, by omega, by omega, by go_num, ps', ds', nx', ls', (HV1.out.fr0 ((Fr.refl [] w11).drewN _)).xb.sub (by simp), HRn.out.1, HRn.out.2⟩
          case measure => simp [intOf]; omega
      · obtain rfl : i = 200 := by omega
        have i2 : ¬ ((200 : Nat) : Int) < 200 := by omega
        obtain ⟨ps, ds, nx, ls, hX, hR, hn⟩ := H.out
        have HX := hide hX
        have hll : ls.length = ds.length := hR.len
        have HR := hide hR
        clear hX hR H
        go_wp2_with fail
        refine (HX.out.list (by omega)).mono ?_
        rintro e w5 ⟨v5, rfl, hr5, hf5⟩
        have H5 := hide (And.intro hr5 hf5)
        clear hr5 hf5
        go_wp2_with fail
        refine ((HX.out.fr0 H5.out.2).rlist (by omega)).mono ?_
        rintro e w6 ⟨v6, rfl, hr6, hf6⟩
        rw [hll, HR.out.ids] at hr6
        have H6 := hide (And.intro hr6 (And.intro (row_fr H5.out.1 hf6 (by simp)) (H5.out.2.trans hf6)))
        clear hr6 hf6 H5
        go_wp2_with fail
        refine (same_calls H6.out.2.1 H6.out.1 (by omega) (by omega)).mono ?_
        rintro e w7 ⟨rfl, hf7⟩
        rw [decide_eq_true rfl]
        have HF := hide (H6.out.2.2.trans (by first | exact hf7 | (subst hf7; exact Fr.refl _ _)))
        clear hf7 H6
        go_wp2_with fail
        go_ret
        exact ⟨rfl, (HX.out.frame.trans HF.out).below (by simp) (Nat.le_refl _)⟩
    · have i1 : ¬ (i : Int) < (len : Int) := by omega
      obtain ⟨ps, ds, nx, ls, hX, hR, hn⟩ := H.out
      have HX := hide hX
      have hll : ls.length = ds.length := hR.len
      have HR := hide hR
      clear hX hR H
      go_wp2_with fail
      refine (HX.out.list (by omega)).mono ?_
      rintro e w5 ⟨v5, rfl, hr5, hf5⟩
      have H5 := hide (And.intro hr5 hf5)
      clear hr5 hf5
      go_wp2_with fail
      refine ((HX.out.fr0 H5.out.2).rlist (by omega)).mono ?_
      rintro e w6 ⟨v6, rfl, hr6, hf6⟩
      rw [hll, HR.out.ids] at hr6
      have H6 := hide (And.intro hr6 (And.intro (row_fr H5.out.1 hf6 (by simp)) (H5.out.2.trans hf6)))
      clear hr6 hf6 H5
      go_wp2_with fail
      refine (same_calls H6.out.2.1 H6.out.1 (by omega) (by omega)).mono ?_
      rintro e w7 ⟨rfl, hf7⟩
      rw [decide_eq_true rfl]
      have HF := hide (H6.out.2.2.trans (by first | exact hf7 | (subst hf7; exact Fr.refl _ _)))
      clear hf7 H6
      go_wp2_with fail
      go_ret
      exact ⟨rfl, (HX.out.frame.trans HF.out).below (by simp) (Nat.le_refl _)⟩
end Go.Proofs.YtpipgkglacmoeaaDoor

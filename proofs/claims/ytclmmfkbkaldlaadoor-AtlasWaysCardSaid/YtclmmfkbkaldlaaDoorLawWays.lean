/- AtlasWays: the walk of the law. -/
import Derived.Test.YtclmmfkbkaldlaaDoorWaysPure
namespace Go.Proofs.YtclmmfkbkaldlaaDoor
open Go.RowKit

theorem tmod_bit (x c : Nat) : ((x : Int) / 2 ^ c).tmod 2 = if x.testBit c then 1 else 0 := by
  have e : ((x : Int) / 2 ^ c) = ((x / 2 ^ c : Nat) : Int) := by simp
  have tb := Nat.testBit_eq_decide_div_mod_eq (x := x) (i := c)
  have e2 : (((x / 2 ^ c : Nat) : Int)).tmod 2 = ((x / 2 ^ c % 2 : Nat) : Int) := rfl
  rw [e, e2, tb]
  by_cases h : x / 2 ^ c % 2 = 1
  · simp [h]
  · have : x / 2 ^ c % 2 = 0 := by omega
    simp [this]
set_option maxRecDepth 100000 in
set_option maxHeartbeats 4000000 in
theorem ways_walk {K : List Nat} {w : World} {ad : Nat → Addr} (hs : Sents K w.heap.size w ad) (h1 : 1 ∈ K) (h2 : 2 ∈ K) (h7 : 7 ∈ K) (hT : Tab w) (x0 y0 : Nat) (hx0 : x0 < 4294967296) (hy0 : y0 < 4294967296) :
    Calls Tryd.prog 5 #[.int .u32 x0, .int .u32 y0] w fun e w' => e = .returned (.bool true) ∧ Below w.heap.size w w' := by
  have C := hide (Cx.start hs)
  have HT := hide hT
  have handx := low_bits hx0
  have handy := low_bits hy0
  have hxl := low_lt x0
  have hyl := low_lt y0
  generalize low x0 = x at *
  generalize low y0 = y at *
  have Hxy := hide (And.intro hxl hyl)
  clear hs hT hx0 hy0 hxl hyl
  go_enter Tryd.func5, Tryd.ntmps5
  go_wp2_with fail
  refine (awake_calls C.out.sents h1 h7 HT.out).mono ?_
  rintro e w1 ⟨rfl, hf⟩
  have C1 := hide (C.out.fr0 hf)
  clear hf C
  go_wp2_with fail
  refine (new_ok C1.out.leW 16 (by omega)).mono ?_
  rintro e w2 ⟨g, S1, rfl, hr, hf, hn⟩
  have A1 : Hid (AI K w ad g 16 [0] S1 [] w2) := hide ⟨hr, by simpa using C1.out.obj hf hn fun b hb => (hr.lt b hb).1, HT.out⟩
  clear hr hf hn C1 HT
  go_wp2_with fail
  have l1 := addm_len [0] x
  have l2 := addm_len (addm [0] x) y
  simp only [List.length_singleton] at l1
  have HL := hide (And.intro l1 l2)
  clear l1 l2
  have q := at_step (F := addm (addm [0] x) y) A1.out (m := x) (In.addm _ _) Hxy.out.1 (by simp)
  refine q.mono ?_
  rintro e w3 ⟨rfl, S3, hA, -⟩
  have A2 := hide hA
  clear hA q A1
  go_wp2_with fail
  have q := at_step (F := addm (addm [0] x) y) A2.out (m := y) (In.refl _) Hxy.out.2 (by have := HL.out; omega)
  refine q.mono ?_
  rintro e w4 ⟨rfl, S4, hA, -⟩
  have A3 := hide hA
  clear hA q A2
  go_wp2_with fail
  have gx : (addm (addm [0] x) y)[(addm (addm [0] x) y).idxOf x]? = some x := (In.refl _).get (mem_addm (addm_mem _ _) _)
  have gy : (addm (addm [0] x) y)[(addm (addm [0] x) y).idxOf y]? = some y := (In.refl _).get (addm_mem _ _)
  have q := way_ok A3.out.tab' A3.out.tab.1 A3.out.atl A3.out.cx.leW gx gy (by have := HL.out; omega)
  obtain ⟨M, F, hM, hF, hin, hmF, hM0, hMl, hch, hlen⟩ := way_spec (addm (addm [0] x) y) Hxy.out.1 Hxy.out.2 gx A3.out.atl.nodup
  have ex : F.idxOf x = (addm (addm [0] x) y).idxOf x := hin.idx (mem_addm (addm_mem _ _) _)
  have ey : F.idxOf y = (addm (addm [0] x) y).idxOf y := hin.idx (addm_mem _ _)
  rw [← ex, ← ey]
  rw [← ex, ← ey] at q
  refine q.mono ?_
  rintro e w5 ⟨v, S5, rfl, hrow, hr, hst, hdis⟩
  rw [← ex] at hM hF
  rw [hM] at hrow
  rw [hF] at hr
  have A4 := hide (A3.out.stp hr hst)
  have hb1 := bitsOf_len (x &&& (4294967295 - y))
  have hb2 := bitsOf_len (y &&& (4294967295 - x))
  rw [List.length_map] at hrow
  have R4 := hide hrow
  have hM1 : 1 ≤ M.length := by omega
  have hM65 : M.length ≤ 65 := by omega
  have hF4 : F.length ≤ 5000 := by
    have h1 := (runs_len false (bitsOf (x &&& (4294967295 - y))) (addm (addm [0] x) y, x, [F.idxOf x])).1
    have h2 := (runs_len true (bitsOf (y &&& (4294967295 - x))) (runs false (addm (addm [0] x) y, x, [F.idxOf x]) (bitsOf (x &&& (4294967295 - y))))).1
    have h3 := HL.out
    have h4 : F.length = (wayP (addm (addm [0] x) y) (F.idxOf x) x y).1.length := by rw [hF]
    unfold wayP at h4
    simp only at h1
    omega
  rw [← dif_len Hxy.out.1 Hxy.out.2] at hlen
  have HM := hide (And.intro hmF (And.intro hM0 (And.intro hMl (And.intro hch hlen))))
  clear hrow hr hst hdis q A3 hM hF hin hmF hM0 hMl hch hlen gx gy ex ey hb1 hb2
  obtain ⟨gv, cv, rfl⟩ : ∃ gp cp, v = .slice (some ⟨gp, 0, none⟩) M.length cp := by
    rcases row_form R4.out with ⟨_, h0, _⟩ | ⟨gp, cp, rfl, _⟩
    · omega
    · exact ⟨_, _, rfl⟩
  have hat : Hid (∀ (k m : Nat), M[k]? = some m → (nats (M.map F.idxOf))[k]? = some (.int .i64 (F.idxOf m : Nat))) := hide fun k m hk => by simp [nats, ints, hk]
  have c0 := row_cell R4.out (hat.out 0 x HM.out.2.1)
  have cl := row_cell R4.out (hat.out _ y HM.out.2.2.1)
  have hM0' : ((M.length : Int) == 0) = false := by simp only [beq_eq_false_iff_ne, ne_eq]; omega
  obtain ⟨p, hp⟩ : ∃ p, M.length = p + 1 := ⟨M.length - 1, by omega⟩
  have Hp := hide hp
  rw [hp, Nat.add_sub_cancel] at cl
  simp only [hp] at hM1 hM65
  clear hM0'
  have hM0' : (((p : Int) + 1) == 0) = false := by simp only [beq_eq_false_iff_ne, ne_eq]; omega
  simp only [hp]
  clear hp
  go_wp2_with fail
  go_loopw [13, 14] (fun s13 s14 wr => ∃ c : Nat, c ≤ 16 ∧ s14 = .int .i64 c ∧ s13 = .int .i64 (dif x y c : Nat) ∧ Fr [] w5 wr) (fun _ s14 _ => 16 - (intOf s14).toNat)
  case atStart => exact ⟨0, by omega, rfl, rfl, Fr.refl _ _⟩
  case round =>
    obtain ⟨c, hc, rfl, rfl, hf⟩ := hrel
    clear c0 cl
    have hdl : dif x y c ≤ c := by
      have := List.length_filter_le (fun i => x.testBit i != y.testBit i) (List.range c)
      simpa [dif] using this
    by_cases hc1 : c < 16
    · have hsn := dif_succ x y c
      have bx := tmod_bit x c
      have bY := tmod_bit y c
      have Hf := hide hf
      clear hf
      cases hxb : x.testBit c <;> cases hyb : y.testBit c
      all_goals
        rw [hxb] at bx
        rw [hyb] at bY
        rw [hxb, hyb] at hsn
        simp only [Bool.false_eq_true, if_true, if_false] at bx bY
        have Hs := hide hsn
        clear hsn hxb hyb
        go_wp2_with fail
        go_quiet (fail)
        go_wp2_with fail
        go_roundw
        case rel => exact ⟨c + 1, by omega, by go_num, by rw [Hs.out]; first | rfl | go_num, Hf.out.drewN _⟩
        case measure => simp [intOf]; omega
    · have hc16 : c = 16 := by omega
      subst hc16
      have A5 := hide (A4.out.fr0 hf)
      have R5 := hide (row_fr R4.out hf (by simp))
      have hdp : dif x y 16 = p := by have := HM.out.2.2.2.2; have := Hp.out; omega
      rw [hdp]
      simp only [Int.cast_ofNat_Int]
      clear hf hdl hdp A4 R4
      go_wp2_with fail
      go_loopw [15] (fun s15 wr2 => ∃ k : Nat, k ≤ p ∧ s15 = .int .i64 ((k + 1 : Nat)) ∧ AI K w ad g 16 F S5 [] wr2 ∧ wr2.ownsRow w4.heap.size 3 1 (.slice (some ⟨gv, 0, none⟩) M.length cv) M.length (nats (M.map F.idxOf))) (fun s15 _ => p + 1 - (intOf s15).toNat)
      case atStart => exact ⟨0, by omega, rfl, A5.out, R5.out⟩
      case round =>
        clear A5 R5
        obtain ⟨k, hk, rfl, hA, hR⟩ := hrel
        have HA := hide (And.intro hA hR)
        clear hA hR
        by_cases hk1 : k < p
        · obtain ⟨P, hP⟩ : ∃ P, M[k]? = some P := ⟨_, List.getElem?_eq_getElem (by have := Hp.out; omega)⟩
          obtain ⟨Q, hQ⟩ : ∃ Q, M[k + 1]? = some Q := ⟨_, List.getElem?_eq_getElem (by have := Hp.out; omega)⟩
          have mP := HM.out.1 P (List.mem_of_getElem? hP)
          have mQ := HM.out.1 Q (List.mem_of_getElem? hQ)
          have P16 := HA.out.1.atl.small P mP
          have Q16 := HA.out.1.atl.small Q mQ
          have M1 := hide (mask_step (F := F) HA.out.1 (x := P) (In.refl _) mP (by omega))
          have M2 := hide (mask_step (F := F) HA.out.1 (x := Q) (In.refl _) mQ (by omega))
          have c0 := row_cell HA.out.2 (hat.out k P hP)
          have c1 := row_cell HA.out.2 (hat.out (k + 1) Q hQ)
          obtain ⟨g1, g2, g3, g4, g5⟩ := (HM.out.2.2.2.1.at_ hP hQ).ask Q16 Hxy.out.1 Hxy.out.2
          have x16 := Hxy.out.1
          have y16 := Hxy.out.2
          have e1 : bits .xor .u32 (P : Int) (Q : Int) = ((P ^^^ Q : Nat) : Int) := u32_xor_nat P Q (by omega) (by omega)
          have e2 : bits .xor .u32 (x : Int) (y : Int) = ((x ^^^ y : Nat) : Int) := u32_xor_nat x y (by omega) (by omega)
          have e3 : bits .or .u32 (x : Int) (y : Int) = ((x ||| y : Nat) : Int) := u32_or_nat x y (by omega) (by omega)
          have hor : x ||| y < 2 ^ 16 := Nat.or_lt_two_pow x16 y16
          have hxor : x ^^^ y < 2 ^ 16 := Nat.xor_lt_two_pow x16 y16
          have e4 : bits .andNot .u32 (Q : Int) ((x ||| y : Nat) : Int) = 0 := by rw [u32_andNot_nat Q _ (by omega) (by omega), g4]; rfl
          have e5 : bits .and .u32 ((P ^^^ Q : Nat) : Int) ((x ^^^ y : Nat) : Int) = ((P ^^^ Q : Nat) : Int) := by rw [u32_and_nat _ _ (by omega) (by omega), g3]
          have e6 : bits .and .u32 ((P ^^^ Q : Nat) : Int) (((P ^^^ Q : Nat) : Int) - 1) = 0 := by
            rw [show (((P ^^^ Q : Nat) : Int) - 1) = (((P ^^^ Q) - 1 : Nat) : Int) from by omega, u32_and_nat _ _ (by omega) (by omega), g2]; rfl
          have z1 : (((P ^^^ Q : Nat) : Int) == 0) = false := by simp only [beq_eq_false_iff_ne, ne_eq]; omega
          have d1 : 1 ≤ P ^^^ Q := by omega
          generalize P ^^^ Q = d at *
          generalize x ||| y = xo at *
          generalize x ^^^ y = xx at *
          clear g1 g2 g3 g4 hP hQ mP mQ P16 Q16 x16 y16 hor hxor
          go_wp2_with fail
          refine M1.out.mono ?_
          rintro e w' ⟨rfl, rfl⟩
          go_wp2_with fail
          refine M2.out.mono ?_
          rintro e w' ⟨rfl, rfl⟩
          go_wp2_with fail
          go_roundw
          case rel => exact ⟨k + 1, by omega, by go_num, HA.out.1, HA.out.2⟩
          case measure => simp [intOf]; omega
        · have hkp : k = p := by omega
          subst hkp
          go_wp2_with fail
          refine (at_nil HA.out.1.cx.sents h2 0).mono ?_
          rintro e w6 ⟨u, rfl, hn, hf⟩
          obtain ⟨b1, s1, rfl, hA⟩ := HA.out.1.err hf hn
          have A6 := hide hA
          clear hn hf hA HA
          go_wp2_with fail
          refine (way_nil A6.out.cx.sents h2 0 0).mono ?_
          rintro e w7 ⟨u, rfl, hn, hf⟩
          obtain ⟨b2, s2, rfl, hA⟩ := A6.out.err hf hn
          have A7 := hide hA
          clear hn hf hA A6
          have g2 := A7.out.cx.sents.cell 2 h2
          simp only [gOf] at g2
          go_wp2_with fail
          refine (is_chain A7.out.cx.sents h2 h2 (A7.out.chain (b := b1) (s := s1) (j := 2) (by simp))).mono ?_
          rintro e w' ⟨rfl, rfl⟩
          go_wp2_with fail
          refine (is_chain A7.out.cx.sents h2 h2 (A7.out.chain (b := b2) (s := s2) (j := 2) (by simp))).mono ?_
          rintro e w' ⟨rfl, rfl⟩
          go_wp2_with fail
          refine (len_nil _).mono ?_
          rintro e w' ⟨rfl, rfl⟩
          go_wp2_with fail
          refine (match_nil _ 0 0).mono ?_
          rintro e w' ⟨rfl, rfl⟩
          go_wp2_with fail
          go_ret
          exact ⟨rfl, A7.out.below⟩
end Go.Proofs.YtclmmfkbkaldlaaDoor

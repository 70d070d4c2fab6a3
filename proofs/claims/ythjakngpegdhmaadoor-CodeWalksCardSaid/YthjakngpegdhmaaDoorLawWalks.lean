/- CodeWalks: the walk of the law. -/
import Derived.Test.YthjakngpegdhmaaDoorEnv
import Derived.Test.YthjakngpegdhmaaDoorInsArg
namespace Go.Proofs.YthjakngpegdhmaaDoor
open Go.RowKit

theorem intsD_get {ds : List Int} {p : Nat} (h : p < ds.length) : (ints ds)[p]? = some (.int .i64 (atL ds p)) := by
  unfold ints atL
  rw [List.getElem?_map, List.getElem?_eq_getElem h, List.getD_eq_getElem?_getD, List.getElem?_eq_getElem h]; rfl
/-- what is known of the place where the walk is -/
def AtP (L : List Ins) (ds : List Int) (p : Nat) (d : Int) : Prop := p ≤ L.length ∧ d = atL ds p ∧ 0 ≤ d ∧ d ≤ 16
theorem AtP.start {L : List Ins} {ds : List Int} (h : Told L ds) : AtP L ds 0 0 := ⟨by omega, h.cons.start.symm, by omega, by omega⟩
theorem AtP.ok {L : List Ins} {ds : List Int} {p : Nat} {d : Int} (h : AtP L ds p d) (ht : Told L ds) {x : Ins} (hx : L[p]? = some x) : (rowOf x.op).t ≤ d ∧ d - (rowOf x.op).t + (rowOf x.op).l ≤ 16 ∧
    (onB x.op = true → AtP L ds (p + 1) (d - (rowOf x.op).t + (rowOf x.op).l)) ∧ (jumpsB x.op = true → 0 ≤ x.a ∧ x.a ≤ L.length ∧ AtP L ds x.a.toNat (d - (rowOf x.op).t + (rowOf x.op).l)) := by
  obtain ⟨h1, rfl, h2, h3⟩ := h
  have hl : p < L.length := (List.getElem?_eq_some_iff.mp hx).1
  obtain ⟨o1, o2, o3, o4⟩ := ht.cons.ok p x hx (by omega)
  unfold leaves_ at o2 o3 o4
  have hr := rowOf_rng x.op
  refine ⟨by omega, o2, fun hon => ⟨by omega, (o4 hon).symm, by omega, o2⟩, fun hj => ?_⟩
  obtain ⟨v1, v2⟩ := (ht.valid x (List.mem_of_getElem? hx)).2 hj
  exact ⟨v1, v2, by omega, (o3 hj).symm, by omega, o2⟩
set_option maxRecDepth 100000 in
set_option maxHeartbeats 16000000 in
theorem walks_walk {K : List Nat} {ad : Nat → Addr} {w : World} (E : Env K ad w) {A : Option Addr} {n c : Nat} {L : List Ins} (hln : L.length = n) (hn : n ≤ maxLen) (hr : Reads w w.heap.size 3 A n (L.flatMap encIns))
    {A2 : Option Addr} {m c2 : Nat} {ts : List Bool} (hlm : ts.length = m) (hm : m ≤ maxLen) (hr2 : Reads w w.heap.size 1 A2 m (ts.flatMap encBo)) :
    Calls Tryd.prog 4 #[.slice A n c, .slice A2 m c2] w fun e w' => e = .returned (.bool true) ∧ Below w.heap.size w w' := by
  unfold maxLen at hn hm
  have HA := hide E.awake
  have H0 := hide (And.intro E (And.intro hr (And.intro hln (And.intro hr2 hlm))))
  clear hr hln E hr2 hlm
  by_cases h80 : 80 < n
  · have k80 : (80 : Int) < (n : Int) := by omega
    go_enter Tryd.func4, Tryd.ntmps4
    go_wp2_with fail
    refine HA.out.mono ?_
    rintro e w1 ⟨rfl, hf⟩
    have Hf := hide hf
    clear hf
    go_wp2_with fail
    go_ret
    exact ⟨rfl, Hf.out.below (by simp) (Nat.le_refl _)⟩
  have k80 : ¬ (80 : Int) < (n : Int) := by omega
  go_enter Tryd.func4, Tryd.ntmps4
  go_wp2_with fail
  refine HA.out.mono ?_
  rintro e w1 ⟨rfl, hf1⟩
  have Hf1 := hide hf1
  clear hf1 HA
  go_wp2_with fail
  refine plain_calls.mono ?_
  rintro e w2 ⟨gc, cc, gr, rfl, hf2, hrow⟩
  have Hf2 := hide (Hf1.out.trans hf2)
  have q := H0.out.1.check (c := c) (gr := gr) Hf2.out hrow rfl (H0.out.2.1.up Hf2.out) H0.out.2.2.1 (by omega)
  rw [compL_cs] at q
  have Q := hide q
  clear q hf2 hrow Hf1
  go_wp2_with fail
  refine Q.out.mono ?_
  rintro e w3 ⟨v, rfl, hf3, hok, hno, -⟩
  have Hf3 := hide (Hf2.out.trans hf3)
  clear hf3 Q Hf2
  by_cases hC : okC csP 2 L
  rotate_left
  · obtain ⟨t, a, rfl⟩ := hno hC
    clear hok hno
    go_wp2_with fail
    go_ret
    exact ⟨rfl, Hf3.out.below (by simp) (Nat.le_refl _)⟩
  obtain rfl := hok hC
  have HC := hide hC
  have h64 : n ≤ 64 := by have := hC.1; rw [H0.out.2.2.1] at this; exact this
  have k64 : ¬ (64 : Int) < (n : Int) := by omega
  clear hok hno hC
  have q := depths_calls (B := w3.heap.size) (c := c) (H0.out.2.1.up Hf3.out) H0.out.2.2.1 (H0.out.1.tab.fr0 Hf3.out) (Nat.lt_of_lt_of_le H0.out.1.tab.lt' Hf3.out.size) (Nat.le_refl _) (by omega)
  have Q := hide q
  clear q
  go_wp2_with fail
  refine Q.out.mono ?_
  rintro e w4 ⟨hf4, ⟨ds, gD, cD, hTd, rfl, hrow⟩ | ⟨hU, rfl⟩⟩
  rotate_left
  · exact absurd HC.out.2.2.choose_spec (untold_not hU _)
  have hds : ds.length = n + 1 := by rw [hTd.len, H0.out.2.2.1]
  rw [hds] at hrow ⊢
  have Hds := hide hds
  have HT := hide hTd
  have HR := hide hrow
  have Hf4 := hide (Hf3.out.trans hf4)
  have n1 : ((n + 1 : Nat) : Int) = (n : Int) + 1 := by omega
  clear hf4 hrow Hf3 hds hTd Q HC
  go_wp2_with fail
  go_loopw [7, 8, 9] (fun s7 s8 s9 wr => ∃ (i p : Nat) (d : Int), i ≤ 300 ∧ p ≤ n ∧ s7 = .int .i64 p ∧ s8 = .int .i64 d ∧ s9 = .int .i64 i ∧ AtP L ds p d ∧ Fr [] w4 wr) (fun _ _ s9 _ => 300 - (intOf s9).toNat)
  case atStart => exact ⟨0, 0, 0, by omega, by omega, rfl, rfl, rfl, AtP.start HT.out, Fr.refl _ _⟩
  case round =>
    obtain ⟨i, p, d, hi, hp, rfl, rfl, rfl, hat, hf⟩ := hrel
    have e0 := row_cell (row_fr HR.out hf (by simp)) (intsD_get (ds := ds) (p := p) (by rw [Hds.out]; omega))
    rw [← hat.2.1] at e0
    have lD := World.block_lt_of_cell? wr _ e0
    have d0 : 0 ≤ d := hat.2.2.1
    have d16 : d ≤ 16 := hat.2.2.2
    have p0 : ¬ (p : Int) < 0 := by omega
    have p1 : ¬ (n : Int) < (p : Int) := by omega
    have p2 : (p : Int) < (n : Int) + 1 := by omega
    have H := hide (And.intro hat hf)
    clear hat hf
    by_cases hi3 : i < 300
    · have i3 : (i : Int) < 300 := by omega
      by_cases hpn : p = n
      · subst hpn
        go_wp2_with fail
        go_ret
        exact ⟨rfl, (Hf4.out.trans H.out.2).below (by simp) (Nat.le_refl _)⟩
      · have i2 : (p : Int) < (n : Int) := by omega
        have ine : ((p : Int) == (n : Int)) = false := by simp; omega
        obtain ⟨x, hx⟩ : ∃ x, L[p]? = some x := ⟨_, List.getElem?_eq_getElem (by rw [H0.out.2.2.1]; omega)⟩
        obtain ⟨bA, oA, rfl, hbA, a0, a1, a2⟩ := ins_get (H0.out.2.1.up (Hf4.out.trans H.out.2)) H0.out.2.2.1 hx
        obtain ⟨t1, t2, t3, t4⟩ := H.out.1.ok HT.out hx
        have hrng := rowOf_rng x.op
        have HN := hide (And.intro t3 t4)
        have HTb := hide (H0.out.1.tab.fr0 (Hf4.out.trans H.out.2))
        have HM := hide (fun W (h : Fr [] wr W) => moves_calls (HTb.out.fr0 h) x.op)
        have HJ := hide (fun W (h : Fr [] wr W) => jumps_calls (HTb.out.fr0 h) x.op)
        have Hln := hide (show L.length = n from H0.out.2.2.1)
        clear hx t3 t4
        generalize rowOf x.op = r at *
        obtain ⟨rw_, ra, rt, rl⟩ := r
        simp only at t1 t2 hrng HM HN
        generalize jumpsB x.op = jb at *
        generalize onB x.op = ob at *
        obtain ⟨op, ia, ib⟩ := x
        simp only at a0 a1 a2 HM HN HJ
        have hrt := hrng.1
        have hrl := hrng.2.2.1
        have hrl3 := hrng.2.2.2.1
        clear hrng
        have t1' : ¬ d < rt := by omega
        have t2' : ¬ 16 < d - rt + rl := by omega
        go_wp2_with fail
        have hfa : Fr [] wr (wr.alloc (.cells #[.int .i64 op, .int .i64 ia, .int .i64 ib] 50)) := (Fr.refl _ _).alloc _
        refine (HM.out _ hfa).mono ?_
        rintro e w6 ⟨rfl, hf6⟩
        have hbox := (Blk.new wr 50 #[.int .i64 op, .int .i64 ia, .int .i64 ib]).fr0 hf6
        have q0 := hbox.at_ 0 (v := .int .i64 op) rfl
        have lbx := hbox.lt
        have Hf6 := hide (hfa.trans hf6)
        have Hbox := hide hbox
        clear hf6 hbox hfa HM
        go_wp2_with fail
        refine (HJ.out _ Hf6.out).mono ?_
        rintro e w7 ⟨rfl, hf7⟩
        have q1 := (Hbox.out.fr0 hf7).at_ 1 (v := .int .i64 ia) rfl
        have lbx7 := (Hbox.out.fr0 hf7).lt
        have Hf7 := hide (Hf6.out.trans hf7)
        clear hf7 q0 lbx Hbox HJ Hf6
        cases jb with
        | false =>
          cases ob with
          | false =>
            go_wp2_with fail
            go_ret
            exact ⟨rfl, ((Hf4.out.trans H.out.2).trans Hf7.out).below (by simp) (Nat.le_refl _)⟩
          | true =>
            go_wp2_with fail
            go_roundw
            case rel => exact ⟨i + 1, p + 1, _, by omega, by omega, by go_num, rfl, by go_num, HN.out.1 trivial, H.out.2.trans Hf7.out⟩
            case measure => simp [intOf]; omega
        | true =>
          obtain ⟨j0, j1, j2⟩ := HN.out.2 rfl
          obtain ⟨q, rfl⟩ := Int.eq_ofNat_of_zero_le j0
          rw [Int.toNat_natCast] at j2
          rw [Hln.out] at j1
          have J := hide (And.intro j1 j2)
          clear j0 j1 j2
          cases ob with
          | false =>
            go_wp2_with fail
            go_roundw
            case rel => exact ⟨i + 1, q, _, by omega, by have := J.out.1; omega, rfl, rfl, by go_num, J.out.2, H.out.2.trans Hf7.out⟩
            case measure => simp [intOf]; omega
          | true =>
            by_cases him : i < m
            · obtain ⟨t, ht⟩ : ∃ t, ts[i]? = some t := ⟨_, List.getElem?_eq_getElem (by rw [H0.out.2.2.2.2]; omega)⟩
              obtain ⟨bB, oB, rfl, hbB, b0⟩ := (H0.out.2.2.2.1.up ((Hf4.out.trans H.out.2).trans Hf7.out)).at_ encBo_len ht H0.out.2.2.2.2
              have b1 := b0 0 (.bool t) rfl
              rw [Nat.mul_one, Nat.add_zero] at b1
              have im : (i : Int) < (m : Int) := by omega
              clear b0 ht
              cases t with
              | false =>
                go_wp2_with fail
                go_roundw
                case rel => exact ⟨i + 1, p + 1, _, by omega, by omega, by go_num, rfl, by go_num, HN.out.1 trivial, H.out.2.trans Hf7.out⟩
                case measure => simp [intOf]; omega
              | true =>
                go_wp2_with fail
                go_roundw
                case rel => exact ⟨i + 1, q, _, by omega, by have := J.out.1; omega, rfl, rfl, by go_num, J.out.2, H.out.2.trans Hf7.out⟩
                case measure => simp [intOf]; omega
            · have im : ¬ (i : Int) < (m : Int) := by omega
              go_wp2_with fail
              go_roundw
              case rel => exact ⟨i + 1, p + 1, _, by omega, by omega, by go_num, rfl, by go_num, HN.out.1 trivial, H.out.2.trans Hf7.out⟩
              case measure => simp [intOf]; omega
    · have i3 : ¬ (i : Int) < 300 := by omega
      go_wp2_with fail
      go_ret
      exact ⟨rfl, (Hf4.out.trans H.out.2).below (by simp) (Nat.le_refl _)⟩
end Go.Proofs.YthjakngpegdhmaaDoor

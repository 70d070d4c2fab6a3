/- RollExact: the walk of the law. -/
import Derived.Test.YtghffjlgiclieaaDoorExactI
import Derived.Deep.DeepCutAuto
import Derived.Deep.CutBlock
namespace Go.Proofs.YtghffjlgiclieaaDoor
open Go.RowKit

theorem Sents.up {K : List Nat} {B : Nat} {w w' : World} {ad : Nat → Addr} (h : Sents K B w ad) (hf : Fr [] w w') : Sents K w'.heap.size w' ad :=
  ⟨Nat.le_refl _, fun k hk => Nat.lt_of_lt_of_le (h.glob k hk) (Nat.le_trans h.le hf.size), fun k hk => (h.fr0 hf).cell k hk, fun k hk => Nat.lt_of_lt_of_le (h.lt k hk) (Nat.le_trans h.le hf.size), fun k hk => (h.fr0 hf).blk k hk, h.inj⟩
theorem Reads.up {w w' : World} {B size n : Nat} {A : Option Addr} {xs : List Value} (h : Reads w B size A n xs) (hb : Below B w w') {B' : Nat} (hB : B ≤ B') : Reads w' B' size A n xs := by
  have h' := h.below hb
  refine ⟨h'.1, fun hn => ?_⟩
  obtain ⟨b, off, e, hb', hc⟩ := h'.2 hn
  exact ⟨b, off, e, by omega, hc⟩

/-- what holds at the loop's head -/
def EI (K : List Nat) (w : World) (ad : Nat → Addr) (n g g2 : Nat) (bd : Int) (m : Nat) (v : Value) (wr : World) : Prop :=
  ∃ (gs : List (Nat × Int)) (ps : List (Int × Bool)) (row : List Nat) (S1 S2 : List Nat), gs.length ≤ m ∧ RInv n ps row bd ∧ DI K w ad g g2 S1 S2 [] ps row ps row v gs wr

theorem act_keep {K : List Nat} {w : World} {ad : Nat → Addr} {g g2 : Nat} {S1 S2 : List Nat} {L : List (Nat × TypeId × Array Value)} {ps1 ps2 : List (Int × Bool)} {row1 row2 : List Nat} {v : Value} {gs : List (Nat × Int)} {wr : World}
    (h : DI K w ad g g2 S1 S2 L ps1 row1 ps2 row2 v gs wr) {b12 : Nat} {kk x1 x2 x3 : Value} (hm : (b12, 33, #[kk, x1, x2, x3]) ∈ L) : wr.cell? ⟨b12, 1, none⟩ = some x1 ∧ wr.cell? ⟨b12, 2, none⟩ = some x2 :=
  ⟨(h.cx.blk hm).at_ 1 rfl, (h.cx.blk hm).at_ 2 rfl⟩
theorem alive_free {ps : List (Int × Bool)} {k : Nat} {x : Int} (hk : ps[k]? = some (x, true)) : aliveB (ps.set k (x, false)) k x = false := by
  have hl := (List.getElem?_eq_some_iff.1 hk).1
  simp [aliveB, List.getElem?_set_self hl]

theorem fin_keep {K : List Nat} {w : World} {ad : Nat → Addr} {g g2 : Nat} {S1 S2 : List Nat} {L : List (Nat × TypeId × Array Value)} {ps1 ps2 : List (Int × Bool)} {row1 row2 : List Nat} {v : Value} {gs : List (Nat × Int)} {wr : World}
    (h : DI K w ad g g2 S1 S2 L ps1 row1 ps2 row2 v gs wr) {b5 : Nat} {t : TypeId} {x y : Value} (hb : Blk w b5 t #[x, y]) (h2 : 2 ∈ K) : wr.cell? ⟨b5, 0, none⟩ = some x ∧ wr.cell? ⟨b5, 1, none⟩ = some y ∧ wr.cell? ⟨1, 0, none⟩ = some (sv (ad 2)) :=
  ⟨(hb.fr0 h.cx.fr).at_ 0 rfl, (hb.fr0 h.cx.fr).at_ 1 rfl, h.cx.sents.cell 2 h2⟩

set_option maxRecDepth 100000 in
set_option maxHeartbeats 8000000 in
theorem exact_walk {K : List Nat} {w : World} {ad : Nat → Addr} (hs : Sents K w.heap.size w ad) (hall : ∀ k ∈ All18, k ∈ K) (n0 : Int) (A : Option Addr) (len c : Nat) (acts : List Act) (hl : acts.length = len) (hlen : len ≤ maxLen)
    (hr : Reads w w.heap.size 4 A len (acts.flatMap encAct)) (ei eg : Int) :
    Calls Tryd.prog 5 #[.int .i64 n0, .slice A len c, .agg #[.int .i64 ei, .int .i64 eg]] w fun e w' => e = .returned (.bool true) ∧ Below w.heap.size w w' := by
  unfold maxLen at hlen
  have h1 : 1 ∈ K := hall 1 (by decide)
  have h2 : 2 ∈ K := hall 2 (by decide)
  have h6 : 6 ∈ K := hall 6 (by decide)
  have h17 : 17 ∈ K := hall 17 (by decide)
  obtain ⟨i9, hi9, hz9, hs9, hb9⟩ := info_parts infoEntity
  have hf0 : Fr [] w (w.alloc (.cells #[.int .i64 ei, .int .i64 eg] 31)) := (Fr.refl [] w).alloc _
  have HW := hide (And.intro hf0 (And.intro (hs.up hf0) (And.intro (hr.up (B' := (w.alloc (.cells #[.int .i64 ei, .int .i64 eg] 31)).heap.size) (hf0.below (by simp) (Nat.le_refl _)) hf0.size) (Blk.new w 31 #[.int .i64 ei, .int .i64 eg]))))
  have Hl := hide hl
  clear hs hr hl hf0
  go_enter Tryd.func5, Tryd.ntmps5
  go_wp2_with fail
  generalize hb5 : w.heap.size = b5 at *
  have Hb5 := hide hb5
  clear hb5
  generalize w.alloc _ = W at HW ⊢
  obtain ⟨hf0, hs, hr, hbox⟩ := HW.out
  have C := hide (Cx.start hs)
  have HR := hide hr
  have HB := hide (And.intro hbox hf0)
  clear hs hr hbox hf0 HW
  refine (awake_calls C.out.sents h1 h6 h17).mono ?_
  rintro e w1 ⟨rfl, hf⟩
  have C1 := hide (C.out.fr0 hf)
  clear hf C
  by_cases hn0 : n0 < 0 ∨ 64 < n0
  · have Hn := hide hn0
    clear hn0
    go_wp2_with fail
    refine (new_err C1.out.sents h1 n0 Hn.out).mono ?_
    rintro e w2 ⟨v, rfl, hn, hf⟩
    obtain ⟨b1, s1, rfl, hc⟩ := C1.out.err hf hn
    have C2 := hide hc
    clear hc hn hf C1
    go_wp2_with fail
    refine (rnew_nil _ n0 Hn.out).mono ?_
    rintro e w3 ⟨rfl, hf⟩
    have C3 := hide (C2.out.fr0 hf)
    clear hf C2
    have g1 := C3.out.sents.cell 1 h1
    simp only [gOf] at g1
    go_wp2_with fail
    refine (is_chain C3.out.sents h1 h1 (chain_of (b := b1) (s := s1) (C3.out.blk (by simp)))).mono ?_
    rintro e w' ⟨rfl, rfl⟩
    go_wp2_with fail
    go_ret
    exact ⟨by simp, (HB.out.2.trans C3.out.fr).below (by simp) (Nat.le_refl _)⟩
  obtain ⟨n, rfl⟩ := Int.eq_ofNat_of_zero_le (a := n0) (by omega)
  have hn64 : n ≤ 64 := by omega
  clear hn0
  go_wp2_with fail
  refine (new_ok C1.out.leW n hn64).mono ?_
  rintro e w2 ⟨g, S1, rfl, hr, hf, hnew⟩
  have C2 := hide (C1.out.obj hf hnew fun b hb => (hr.lt b hb).1)
  rw [List.append_nil] at C2
  have R2 := hide hr
  clear hr hf hnew C1
  go_wp2_with fail
  refine (rnew_ok C2.out.leW n hn64).mono ?_
  rintro e w3 ⟨g2, S2, rfl, hr, hf, hnew⟩
  have C3 := hide (C2.out.obj hf hnew fun b hb => (hr.lt b hb).1)
  have R3 := hide (R2.out.fr hf (by simp))
  have Q3 := hide (And.intro hr (fun b (hb : b ∈ S1) (hm : b ∈ S2) => by have := hnew b hm; have := (R2.out.lt b hb).1; omega : ∀ b ∈ S1, b ∉ S2))
  clear hr hf hnew C2 R2
  go_upto_block 0 with (fail)
  have I0 : EI K W ad n g g2 ((0 : Nat) : Int) 0 (.slice (some ⟨w3.heap.size, 0, none⟩) 0 0) (w3.alloc (.cells #[] 31)) := by
    refine ⟨[], _, _, S1, S2, by simp, RInv.start n, R3.out.alloc _, Q3.out.1.alloc _, Q3.out.2, ?_, row_mk (Blk.new w3 31 #[]) C3.out.leW (Nat.le_refl _) (by simp [maxLen]) rfl rfl⟩
    have h := (C3.out.fr0 ((Fr.refl [] w3).alloc (.cells #[] 31)))
    exact ⟨h.sents, by simp, fun b hb => h.lt b (by simp only [List.mem_append] at hb ⊢; exact hb.symm), h.fr, fun b hb => h.new b (by simp only [List.mem_append] at hb ⊢; exact hb.symm), h.le⟩
  have HI0 := hide I0
  clear I0 C3 R3 Q3
  go_cut [10] (fun v10 wr => EI K W ad n g g2 200 200 v10 wr)
  case first =>
    go_wp2_with fail
    go_loopw [10, 11] (fun v10 s11 wr => ∃ (i : Nat), i ≤ 200 ∧ s11 = .int .i64 i ∧ EI K W ad n g g2 i i v10 wr) (fun _ s11 _ => 200 - (intOf s11).toNat)
    case atStart => exact ⟨0, by omega, rfl, HI0.out⟩
    case round =>
      clear HI0
      obtain ⟨i, hi, rfl, hI⟩ := hrel
      have HI := hide hI
      clear hI
      by_cases hi1 : i < len
      · by_cases hi2 : i < 200
        · obtain ⟨a, ha⟩ : ∃ a, acts[i]? = some a := ⟨acts[i]'(by have := Hl.out; omega), by simp⟩
          obtain ⟨bA, oA, rfl, hbA, hcA⟩ := HR.out.at_ encAct_len ha Hl.out
          obtain ⟨gs, ps, row, S1, S2, hgs, hri, hD⟩ := HI.out
          have hbw := hD.below
          have hwr := hD.cx.fr.size
          have a0 := (hbw.cell (p := ⟨bA, oA + (i * 4 + 0), none⟩) hbA).trans (hcA 0 (.int .i64 a.kind) rfl)
          have a1 := (hbw.cell (p := ⟨bA, oA + (i * 4 + 1), none⟩) hbA).trans (hcA 1 (.int .i64 a.ei) rfl)
          have a2 := (hbw.cell (p := ⟨bA, oA + (i * 4 + 2), none⟩) hbA).trans (hcA 2 (.int .i64 a.eg) rfl)
          have a3 := (hbw.cell (p := ⟨bA, oA + (i * 4 + 3), none⟩) hbA).trans (hcA 3 (.int .i64 a.n) rfl)
          rw [Nat.add_zero] at a0
          rw [← Nat.add_assoc] at a1 a2 a3
          have hps := hri.len
          have hcnt := hri.cnt
          have hrl : row.length ≤ 64 := by omega
          have i0 : (0 : Int) ≤ (i : Int) := by omega
          have i1 : (i : Int) < (len : Int) := by omega
          have HI0 := hide hD
          have D := hide (hD.alloc 33 #[.int .i64 a.kind, .int .i64 a.ei, .int .i64 a.eg, .int .i64 a.n])
          have Hri := hide hri
          have Hps := hide hps
          have lbA : bA < wr.heap.size := by omega
          clear hbw hri hD hcA ha hcnt hps HI
          by_cases hk1 : a.kind = 1
          · rw [hk1] at a0 D
            clear hk1
            rcases List.eq_nil_or_concat row with rfl | ⟨row', j, rfl⟩
            · go_wp2_with fail
              refine (take_full D.out.cx.sents h6 D.out.roll).mono ?_
              rintro e w4 ⟨u, rfl, hn, hf⟩
              obtain ⟨b1, s1, rfl, hd⟩ := D.out.err hf hn
              have D4 := hide (hd.alloc 31 #[.int .i64 0, .int .i64 0])
              clear hd hn hf D a0 a1 a2 a3
              go_wp2_with fail
              refine (rtake_full D4.out.ref).mono ?_
              rintro e w5 ⟨rfl, hf⟩
              have D5 := hide (D4.out.fr0 hf)
              have hb4 := D5.out.cx.blk (b := w4.heap.size) (t := 31) (cs := #[.int .i64 0, .int .i64 0]) (by simp)
              have y0 := hb4.at_ 0 (v := .int .i64 0) (by rfl)
              have y1 := hb4.at_ 1 (v := .int .i64 0) (by rfl)
              have l4 := hb4.lt
              have n4 : w5.heap.size ≠ w4.heap.size := by omega
              have n4' := n4.symm
              have D6 := hide (D5.out.alloc 31 #[.int .i64 0, .int .i64 0])
              clear hf D4 hb4
              go_wp2_with fail
              refine (number_calls (D6.out.cx.sents.sub hall) (k := 6) (.inr ⟨by omega, chain_of (b := b1) (s := s1) (D6.out.cx.blk (by simp))⟩) (by omega)).mono ?_
              rintro e w' ⟨rfl, rfl⟩
              have hs5 := D5.out.cx.fr.size
              go_wp2_with (at_builtin; refine wpList_append_lies _ rfl _ _ _ rfl W.heap.size 31 i9 _ 2 16 Tryd.underlying36 hi9 hz9 hs9 hb9 rfl (by omega) (u10) (gs.length) (gs.flatMap encE) rfl ((D6.out.row.alloc _)) ⟨w5.heap.size + 1, 0, none⟩ 1 1 [.int .i64 0, .int .i64 0] rfl rfl (World.news_of_block (cs := #[.int .i64 0, .int .i64 0]) (t := 31) (fr := (0, 0)) (Blk.new_at _ _ _ _ (by simp))) (by simp [Value.oneCell']) (by omega) (by unfold maxLen; omega) (by omega) (by simp; omega) (w5.heap.size + 1 + 1) (by simp) ?_; intro ag9 ac9 aw9 aown9 agrow9 aat9 alt9)
              go_roundw
              case rel =>
                refine ⟨i + 1, by omega, by go_num, gs ++ [(0, 0)], ps, [], S1, S2, by simp; omega, Hri.out.mono (by omega), ?_⟩
                exact ((D6.out.sub (L' := []) (by simp)).fr0 ((Fr.refl [] _).alloc _)).app (e := (0, 0)) (by simpa [encE] using aown9) agrow9
              case measure => simp [intOf]; omega
            · simp only [List.concat_eq_append] at D Hri hrl
              obtain ⟨gen, hg, hg0, hgb, hjn⟩ := Hri.out.last
              have Hg := hide hg
              clear hg
              go_wp2_with fail
              refine (take_ok D.out.roll Hg.out hg0 (by omega)).mono ?_
              rintro e w4 ⟨rfl, hr, hf⟩
              have D4 := hide ((D.out.one hr (Stp.same hf)).alloc 31 #[.int .i64 j, .int .i64 (gen + 1)])
              clear hr hf D a0 a1 a2 a3
              go_wp2_with fail
              refine (rtake_ok D4.out.ref Hg.out hg0 (by omega) (by simp at hrl; omega)).mono ?_
              rintro e w5 ⟨rfl, hr, hf⟩
              have D5 := hide (D4.out.two hr (Stp.same hf))
              have hb4 := D5.out.cx.blk (b := w4.heap.size) (t := 31) (cs := #[.int .i64 j, .int .i64 (gen + 1)]) (by simp)
              have y0 := hb4.at_ 0 (v := .int .i64 j) (by rfl)
              have y1 := hb4.at_ 1 (v := .int .i64 (gen + 1)) (by rfl)
              have l4 := hb4.lt
              have n4 : w5.heap.size ≠ w4.heap.size := by omega
              have n4' := n4.symm
              have D6 := hide (D5.out.alloc 31 #[.int .i64 j, .int .i64 (gen + 1)])
              clear hr hf D4 hb4
              have hs5 := D5.out.cx.fr.size
              go_wp2_with fail
              refine (number_calls (D6.out.cx.sents.sub hall) (v := .nilIface) (k := 0) (T := []) (.inl ⟨rfl, rfl, rfl⟩) (by omega)).mono ?_
              rintro e w' ⟨rfl, rfl⟩
              go_wp2_with (at_builtin; refine wpList_append_lies _ rfl _ _ _ rfl W.heap.size 31 i9 _ 2 16 Tryd.underlying36 hi9 hz9 hs9 hb9 rfl (by omega) (u10) (gs.length) (gs.flatMap encE) rfl ((D6.out.row.alloc _)) ⟨w5.heap.size + 1, 0, none⟩ 1 1 [.int .i64 j, .int .i64 (gen + 1)] rfl rfl (World.news_of_block (cs := #[.int .i64 j, .int .i64 (gen + 1)]) (t := 31) (fr := (0, 0)) (Blk.new_at _ _ _ _ (by simp))) (by simp [Value.oneCell']) (by omega) (by unfold maxLen; omega) (by omega) (by simp; omega) (w5.heap.size + 1 + 1) (by simp) ?_; intro ag9 ac9 aw9 aown9 agrow9 aat9 alt9)
              go_roundw
              case rel =>
                refine ⟨i + 1, by omega, by go_num, gs ++ [(j, gen + 1)], ps.set j (gen + 1, true), row', S1, S2, by simp; omega, (Hri.out.take Hg.out).mono (by omega), ?_⟩
                exact ((D6.out.sub (L' := []) (by simp)).fr0 ((Fr.refl [] _).alloc _)).app (e := (j, gen + 1)) (by simpa [encE] using aown9) agrow9
              case measure => simp [intOf]; omega
          · have hk1b : (a.kind == 1) = false := by simp [hk1]
            have hgs2 : gs.length ≤ 200 := by omega
            have D0 := hide (D.out.sub (L' := []) (by simp))
            have hfd : ∃ A' c', u10 = .slice A' gs.length c' := by
              rcases row_form D.out.row with ⟨rfl, h0, _⟩ | ⟨gG, cG, rfl, _⟩
              · exact ⟨_, _, by rw [h0]⟩
              · exact ⟨_, _, rfl⟩
            obtain ⟨xn, hxn⟩ : ∃ xn, xn = a.n := ⟨_, rfl⟩
            rw [← hxn] at a3 D
            clear hxn
            by_cases hE : a.kind = 3 ∧ 0 < gs.length
            case' pos =>
              obtain ⟨hk3, hm⟩ := hE
              rcases row_form D.out.row with ⟨_, h0, _⟩ | ⟨gG, cG, rfl, _, lgG', _⟩
              · omega
              have lgG : gG < wr.heap.size := (row_lt HI0.out.row rfl).1
              obtain ⟨ux, hux, hux1⟩ := u64_nat xn
              obtain ⟨m, hmm⟩ : ∃ m, m = gs.length := ⟨_, rfl⟩
              obtain ⟨j, hj⟩ : ∃ j, j = ux % m := ⟨_, rfl⟩
              have hjm : j < m := by rw [hj]; exact Nat.mod_lt _ (by omega)
              obtain ⟨⟨xi0, xg⟩, hxe⟩ : ∃ e, gs[j]? = some e := ⟨gs[j]'(by omega), by simp⟩
              have e0 := row_cell HI0.out.row (i := j * 2 + 0) (u := .int .i64 xi0) (by rw [flat_get encE_len hxe 0 (by omega)]; rfl)
              have e1 := row_cell HI0.out.row (i := j * 2 + 1) (u := .int .i64 xg) (by rw [flat_get encE_len hxe 1 (by omega)]; rfl)
              rw [Nat.add_zero] at e0
              obtain ⟨xi, hxi⟩ : ∃ xi : Int, xi = (xi0 : Int) := ⟨_, rfl⟩
              rw [← hxi] at e0
              have hje : (ux : Int) % (m : Int) = (j : Int) := by rw [hj]; rfl
              have j0 : (0 : Int) ≤ (j : Int) := by omega
              have j1 : (j : Int) < (m : Int) := by omega
              have mne : (m : Int) ≠ 0 := by omega
              have m0 : (0 : Int) < (m : Int) := by omega
              have m2 : (m : Int) ≤ 200 := by omega
              rw [hk3] at a0 D
              rw [← hmm]
              have D22 := hide (HI0.out.alloc 33 #[.int .i64 3, .int .i64 xi, .int .i64 xg, .int .i64 xn])
              have Hmm := hide (And.intro hmm (And.intro hj hxi))
              clear hk3 hfd hk1 hk1b D D0 hxe hm hmm hj hxi hgs2
              go_wp2_with fail
              clear e0 e1 hje hux hux1 a0 a1 a2 a3 j0 j1 mne m0 m2 hjm
              rw [Hmm.out.1]
            case' neg =>
              obtain ⟨xi, hxi⟩ : ∃ x, x = a.ei := ⟨_, rfl⟩
              obtain ⟨xg, hxg⟩ : ∃ x, x = a.eg := ⟨_, rfl⟩
              rw [← hxi] at a1 D
              rw [← hxg] at a2 D
              clear hxi hxg
              have D22 := D
              obtain ⟨A', c', rfl⟩ := hfd
              by_cases hk3 : a.kind = 3
              case' pos =>
                have hm0 : gs.length = 0 := by
                  rcases Nat.eq_zero_or_pos gs.length with h | h
                  · exact h
                  · exact absurd ⟨hk3, h⟩ hE
                obtain rfl : gs = [] := List.eq_nil_of_length_eq_zero hm0
                have hk3b : (a.kind == 3) = true := by simp [hk3]
                simp only [List.length_nil]
              case' neg =>
                have hk3b : (a.kind == 3) = false := by simp [hk3]
              all_goals
                clear hk3 hE hk1 D D0 hgs2
                go_wp2_with fail
                clear a0 a1 a2 a3
            all_goals
              have hb12 := hwr
              obtain ⟨kk, D22⟩ : ∃ kk, Hid (DI K W ad g g2 S1 S2 [(wr.heap.size, 33, #[kk, .int .i64 xi, .int .i64 xg, .int .i64 xn])] ps row ps row _ _ (wr.alloc _)) := ⟨_, D22⟩
              obtain ⟨y1, y2⟩ := act_keep (b12 := wr.heap.size) (kk := kk) (x1 := .int .i64 xi) (x2 := .int .i64 xg) (x3 := .int .i64 xn) D22.out (by simp)
              have l12 := World.block_lt_of_cell? _ _ y1
              generalize World.alloc _ _ = W22 at D22 y1 y2 l12 ⊢
              generalize wr.heap.size = b12 at *
              have hpn : ps.length ≤ 1000000 := by have := Hps.out; omega
              have Dd := hide (D22.out.fr0 ((Fr.refl [] W22).drew))
              cases hal : aliveB ps xi xg with
              | false =>
                have Hal := hide hal
                clear hal D22
                go_region_held3 (fun w' => w'.cell? ⟨b12, 1, none⟩ = some (.int .i64 xi) ∧ w'.cell? ⟨b12, 2, none⟩ = some (.int .i64 xg))
                  (first | go_keep | exact act_keep (kk := kk) (x3 := .int .i64 xn) De.out (by simp) | exact act_keep (kk := kk) (x3 := .int .i64 xn) Dc.out (by simp) | exact act_keep (kk := kk) (x3 := .int .i64 xn) Db.out (by simp) | exact act_keep (kk := kk) (x3 := .int .i64 xn) Da.out (by simp))
                  (first
                    | (go_at_call 10; refine (free_dead Dd.out.cx.sents h17 Dd.out.roll Hal.out hpn).mono ?_; rintro e wa ⟨u, rfl, hn, hf⟩; obtain ⟨bq, sq, rfl, hd⟩ := Dd.out.err hf hn; have Da := hide hd; clear hd hn hf)
                    | (go_at_call 17; refine (number_calls (Da.out.cx.sents.sub hall) (k := 17) (.inr ⟨by omega, chain_of (b := bq) (s := sq) (Da.out.cx.blk (by simp))⟩) (by omega)).mono ?_; rintro e w' ⟨rfl, rfl⟩)
                    | (go_at_call 18; refine (rfree_dead Da.out.ref hpn Hal.out).mono ?_; rintro e wb ⟨rfl, hf⟩; have Db := hide (Da.out.fr0 hf); clear hf)
                    | (go_at_call 12; refine (alive_calls Db.out.roll hpn xi xg).mono ?_; rw [Hal.out]; rintro e wc ⟨rfl, hf⟩; have Dc := hide (Db.out.fr0 hf); clear hf)
                    | (go_at_call 19; refine (ralive_calls Dc.out.ref hpn xi xg).mono ?_; rw [Hal.out]; rintro e we ⟨rfl, hf⟩; have De := hide (Dc.out.fr0 hf); clear hf))
                all_goals
                  go_wp2_with fail
                  go_roundw
                  case rel => exact ⟨i + 1, by omega, by go_num, _, ps, row, S1, S2, by omega, Hri.out.mono (by omega), De.out.sub (by simp)⟩
                  case measure => simp [intOf]; omega
              | true =>
                obtain ⟨k, rfl, hk⟩ : ∃ k : Nat, xi = (k : Int) ∧ ps[k]? = some (xg, true) := by
                  unfold aliveB at hal
                  simp only [Bool.and_eq_true, decide_eq_true_eq] at hal
                  exact ⟨xi.toNat, by omega, hal.2⟩
                have Hk := hide hk
                clear hal hk D22
                go_region_held3 (fun w' => w'.cell? ⟨b12, 1, none⟩ = some (.int .i64 k) ∧ w'.cell? ⟨b12, 2, none⟩ = some (.int .i64 xg))
                  (first | go_keep | exact act_keep (kk := kk) (x3 := .int .i64 xn) De.out (by simp) | exact act_keep (kk := kk) (x3 := .int .i64 xn) Dc.out (by simp) | exact act_keep (kk := kk) (x3 := .int .i64 xn) Db.out (by simp) | exact act_keep (kk := kk) (x3 := .int .i64 xn) Da.out (by simp))
                  (first
                    | (go_at_call 10; refine (free_ok Dd.out.roll Dd.out.cx.leW Hk.out hpn (by omega)).mono ?_; rintro e wa ⟨rfl, S1', hr, hst⟩; have Da := hide (Dd.out.one hr hst); clear hr hst)
                    | (go_at_call 17; refine (number_calls (Da.out.cx.sents.sub hall) (v := .nilIface) (k := 0) (T := []) (.inl ⟨rfl, rfl, rfl⟩) (by omega)).mono ?_; rintro e w' ⟨rfl, rfl⟩)
                    | (go_at_call 18; refine (rfree_ok Da.out.ref Da.out.cx.leW hpn (by omega) Hk.out).mono ?_; rintro e wb ⟨rfl, S2', hr, hst⟩; have Db := hide (Da.out.two hr hst); clear hr hst)
                    | (go_at_call 12; refine (alive_calls Db.out.roll (by rw [List.length_set]; exact hpn) k xg).mono ?_; rw [alive_free Hk.out]; rintro e wc ⟨rfl, hf⟩; have Dc := hide (Db.out.fr0 hf); clear hf)
                    | (go_at_call 19; refine (ralive_calls Dc.out.ref (by rw [List.length_set]; exact hpn) k xg).mono ?_; rw [alive_free Hk.out]; rintro e we ⟨rfl, hf⟩; have De := hide (Dc.out.fr0 hf); clear hf))
                all_goals
                  go_wp2_with fail
                  go_roundw
                  case rel => exact ⟨i + 1, by omega, by go_num, _, _, _, S1', S2', by omega, (Hri.out.free Hk.out).mono (by omega), De.out.sub (by simp)⟩
                  case measure => simp [intOf]; omega
        · go_wp2_with fail
          go_meet
          obtain ⟨gs, ps, row, S1, S2, hgs, hri, hD⟩ := HI.out
          exact ⟨gs, ps, row, S1, S2, by omega, hri.mono (by omega), hD⟩
      · go_wp2_with fail
        go_meet
        obtain ⟨gs, ps, row, S1, S2, hgs, hri, hD⟩ := HI.out
        exact ⟨gs, ps, row, S1, S2, by omega, hri.mono (by omega), hD⟩
  case rest =>
    obtain ⟨gs, ps, row, S1, S2, hgs, hri, hD⟩ := hcut
    have hps := hri.len
    have hcnt := hri.cnt
    have hll := listOf_len ps
    obtain ⟨q, hq⟩ : ∃ q, q = (listOf ps).length := ⟨_, rfl⟩
    have hqc : (ps.length : Int) - row.length = (q : Int) := by omega
    have hpn : ps.length ≤ 1000000 := by omega
    have hrn : row.length ≤ ps.length := by omega
    have hq64 : q ≤ 64 := by omega
    have D := hide hD
    have Hq := hide (And.intro hqc (And.intro hps hq))
    clear hri hD hcnt hll hps hqc hq HI0 HR Hl
    go_wp2_with fail
    refine (rlist_calls D.out.ref hpn).mono ?_
    rintro e w4 ⟨v, rfl, hrow, hf⟩
    have D1 := hide (D.out.fr0 hf)
    rw [← Hq.out.2.2] at hrow
    have hv : ∃ A' c', v = .slice A' q c' := by
      rcases row_form hrow with ⟨rfl, h0, _⟩ | ⟨gG, cG, rfl, _⟩
      · exact ⟨_, _, by rw [h0]⟩
      · exact ⟨_, _, rfl⟩
    obtain ⟨A', c', rfl⟩ := hv
    have V1 := hide hrow
    clear hrow hf D
    go_wp2_with fail
    refine (take_nil D1.out.cx.sents h2).mono ?_
    rintro e w5 ⟨u, rfl, hn, hf⟩
    obtain ⟨b1, s1, rfl, hd⟩ := D1.out.err hf hn
    have D2 := hide (hd.alloc 31 #[.int .i64 0, .int .i64 0])
    have V2 := hide ((row_fr V1.out hf (by simp)).alloc (.cells #[.int .i64 0, .int .i64 0] 31))
    clear hd hn hf D1 V1
    go_wp2_with fail
    obtain ⟨x0, x1, xg⟩ := fin_keep D2.out HB.out.1 h2
    have D3 := hide (D2.out.fr0 ((Fr.refl [] _).drew))
    have V3 := hide V2.out.drew
    clear D2 V2
    generalize World.alloc _ _ = W27 at D3 V3 x0 x1 xg ⊢
    have n1 := World.new_ne W27 _ x0
    have n2 := World.new_ne W27 _ x1
    have n3 := World.new_ne W27 _ xg
    go_region_held3 (fun w' => w'.cell? ⟨b5, 0, none⟩ = some (.int .i64 ei) ∧ w'.cell? ⟨b5, 1, none⟩ = some (.int .i64 eg) ∧ w'.cell? ⟨1, 0, none⟩ = some (sv (ad 2)))
      (first | go_keep | exact fin_keep Dh.out HB.out.1 h2 | exact fin_keep Dg.out HB.out.1 h2 | exact fin_keep Df.out HB.out.1 h2 | exact fin_keep De.out HB.out.1 h2 | exact fin_keep Dd.out HB.out.1 h2 | exact fin_keep Dc.out HB.out.1 h2 | exact fin_keep Db.out HB.out.1 h2 | exact fin_keep Da.out HB.out.1 h2)
      (first
        | (go_at_call 9; ((with_reducible refine (list_calls D3.out.roll D3.out.cx.leW hpn).mono ?_)); rintro e wa ⟨va, rfl, hla, hfa, -⟩; have Da := hide (D3.out.fr0 hfa); have Va := hide (row_fr V3.out hfa (by simp)); have La := hide hla; clear hla hfa)
        | (go_at_call 21; refine (esame_calls (xs := listOf ps) (ys := listOf ps) La.out (by have := Va.out; rw [Hq.out.2.2] at this; rw [← Hq.out.2.2] at this ⊢; exact this) (by have := Hq.out.2.2; omega) (by have := Hq.out.2.2; omega)).mono ?_; rw [decide_eq_true (rfl : listOf ps = listOf ps)]; rintro e wb ⟨rfl, hf⟩; have Db := hide (Da.out.fr0 hf); clear hf)
        | (go_at_call 11; ((with_reducible refine (count_calls Db.out.roll hpn hrn).mono ?_)); rw [Hq.out.1]; rintro e wc1 ⟨rfl, hf⟩; have Dc := hide (Db.out.fr0 hf); clear hf)
        | (go_at_call 13; ((with_reducible refine (most_calls Dc.out.roll).mono ?_)); rw [Hq.out.2.1]; rintro e wd ⟨rfl, hf⟩; have Dd := hide (Dc.out.fr0 hf); clear hf)
        | (go_at_call 12; ((with_reducible refine (alive_calls Dd.out.roll hpn ei eg).mono ?_)); rintro e we ⟨rfl, hf⟩; have De := hide (Dd.out.fr0 hf); clear hf)
        | (go_at_call 19; refine (ralive_calls De.out.ref hpn ei eg).mono ?_; rintro e wf ⟨rfl, hf⟩; have Df := hide (De.out.fr0 hf); clear hf)
        | (go_at_call 15; ((with_reducible refine (is_chain Df.out.cx.sents h2 h2 (chain_of (b := b1) (s := s1) (Df.out.cx.blk (by simp)))).mono ?_)); rintro e w' ⟨rfl, rfl⟩)
        | (go_at_call 10; refine (free_nil Df.out.cx.sents h2 ei eg).mono ?_; rintro e wg ⟨u, rfl, hn, hf⟩; obtain ⟨b2, s2, rfl, hd⟩ := Df.out.err hf hn; have Dg := hide hd; clear hd hn hf)
        | (go_at_call 15; ((with_reducible refine (is_chain Dg.out.cx.sents h2 h2 (chain_of (b := b2) (s := s2) (Dg.out.cx.blk (by simp)))).mono ?_)); rintro e w' ⟨rfl, rfl⟩)
        | (go_at_call 12; refine (alive_nil _ ei eg).mono ?_; rintro e wh ⟨rfl, hf⟩; have Dh := hide (Dg.out.fr0 hf); clear hf)
        | (go_at_call 11; refine (count_nil _).mono ?_; rintro e w' ⟨rfl, rfl⟩)
        | (go_at_call 13; refine (most_nil _).mono ?_; rintro e w' ⟨rfl, rfl⟩)
        | (go_at_call 9; refine (list_nil _).mono ?_; rintro e w' ⟨rfl, rfl⟩))
    all_goals
      go_wp2
      go_ret
      exact ⟨by simp; first | decide | rfl, (HB.out.2.trans Dh.out.cx.fr).below (by simp) (Nat.le_refl _)⟩
end Go.Proofs.YtghffjlgiclieaaDoor

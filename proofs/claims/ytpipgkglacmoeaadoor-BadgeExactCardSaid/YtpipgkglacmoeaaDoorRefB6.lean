/- The reference's badges by contracts: Give, Pin. -/
import Derived.Test.YtpipgkglacmoeaaDoorRefB5
import Derived.Test.YtpipgkglacmoeaaDoorOpen
namespace Go.Proofs.YtpipgkglacmoeaaDoor
open Go.RowKit
theorem Stp.pre {S S' : List Nat} {w w1 w2 : World} (hf : Fr [] w w1) (h : Stp S S' w1 w2) : Stp S S' w w2 :=
  ⟨(hf.any S).trans h.1, fun b hb => (h.2 b hb).imp id fun hge => Nat.le_trans hf.size hge⟩
theorem Stp.post {S S' : List Nat} {w w2 w3 : World} (h : Stp S S' w w2) (hf : Fr S' w2 w3) : Stp S S' w w3 := ⟨h.1.step hf h.2, h.2⟩
def RgivePost (B : Nat) (w : World) (g : Nat) (ls : List (Int × Ent)) (nx : Int) (S : List Nat) (x : Ent) (e : Ending) (w' : World) : Prop :=
  (idOf ls x ≠ none ∧ e = .returned (.tuple #[.int .i64 0, .int .i64 9]) ∧ Fr [] w w') ∨ (idOf ls x = none ∧ 1073741824 < nx ∧ e = .returned (.tuple #[.int .i64 0, .int .i64 6]) ∧ Fr [] w w') ∨
  (idOf ls x = none ∧ nx ≤ 1073741824 ∧ e = .returned (.tuple #[.int .i64 nx, .int .i64 0]) ∧ ∃ S', RR B w' g (addL nx x ls) (nx + 1) S' ∧ Stp S S' w w')
set_option maxRecDepth 100000 in
set_option maxHeartbeats 4000000 in
theorem rgive_calls {B : Nat} {w : World} {g : Nat} {ls : List (Int × Ent)} {nx : Int} {S : List Nat} (h : RR B w g ls nx S) (hl : ls.length ≤ 100000) (h1 : 1 ≤ nx) (x : Ent) :
    Calls Tryd.prog 20 #[.pointer (some ⟨g, 0, none⟩), encE x] w (RgivePost B w g ls nx S x) := by
  obtain ⟨e1, e2⟩ := x
  have H := hide h
  have lg := h.see.elim fun A h => h.elim fun c h => h.2.2.1
  clear h
  have hbe := Blk.new w 27 #[.int .i64 e1, .int .i64 e2]
  have hf0 := (Fr.refl [] w).alloc (.cells #[.int .i64 e1, .int .i64 e2] 27)
  have HB := hide hbe
  have HF := hide hf0
  clear hbe hf0
  simp only [encE]
  go_enter Tryd.func20, Tryd.ntmps20
  go_wp2_with fail
  refine (rid_calls (H.out.fr0 HF.out) (by omega) (e1, e2)).mono ?_
  rintro e w1 ⟨rfl, hf⟩
  have Hf := hide (HF.out.trans hf)
  have hb1 := HB.out.fr0 hf
  have b0 := hb1.at_ 0 (v := .int .i64 e1) rfl
  have b1 := hb1.at_ 1 (v := .int .i64 e2) rfl
  have lb := hb1.lt
  obtain ⟨A, c, -, g1, lg1, fg, -⟩ := (H.out.fr0 Hf.out).see
  clear hf hb1
  cases hid : idOf ls (e1, e2) with
  | some i =>
    have Hid' := hide hid
    clear hid
    simp only [Option.getD_some, Option.isSome_some]
    go_wp2_with fail
    go_ret2
    exact .inl ⟨by rw [Hid'.out]; simp, rfl, Hf.out⟩
  | none =>
    have Hid' := hide hid
    clear hid
    simp only [Option.getD_none, Option.isSome_none]
    by_cases hx : 1073741824 < nx
    · go_wp2_with fail
      go_ret2
      exact .inr (.inl ⟨Hid'.out, hx, rfl, Hf.out⟩)
    · go_wp2_with fail
      go_region_law (first
        | (refine step_open (by rfl) ?_; go_wp2_with fail; go_at_call 36; refine (radd_calls ((H.out.fr0 Hf.out).fr0 ((Fr.refl [] w1).drew)) (by omega) nx (e1, e2)).mono ?_; rintro e w2 ⟨rfl, S', hr, hst⟩; obtain ⟨A2, c2, -, g2, lg2, fg2, -⟩ := hr.see; have H2 := hide (And.intro hr hst); clear hr hst; go_wp2_with fail))
      all_goals
        go_wp2
        go_ret2
        have hn := H2.out.1.next (nx + 1)
        exact .inr (.inr ⟨Hid'.out, by omega, rfl, S', hn.1, (Stp.pre Hf.out.drew H2.out.2).post hn.2⟩)
def RpinPost (B : Nat) (w : World) (g : Nat) (ls : List (Int × Ent)) (nx : Int) (S : List Nat) (id : Int) (x : Ent) (e : Ending) (w' : World) : Prop :=
  ((id < 1 ∨ nx ≤ id) ∧ e = .returned (.int .i64 1) ∧ Fr [] w w') ∨ (1 ≤ id ∧ id < nx ∧ (ownOf ls id ≠ none ∨ idOf ls x ≠ none) ∧ e = .returned (.int .i64 9) ∧ Fr [] w w') ∨
  (1 ≤ id ∧ id < nx ∧ ownOf ls id = none ∧ idOf ls x = none ∧ e = .returned (.int .i64 0) ∧ ∃ S', RR B w' g (addL id x ls) nx S' ∧ Stp S S' w w')
set_option maxRecDepth 100000 in
set_option maxHeartbeats 4000000 in
theorem rpin_calls {B : Nat} {w : World} {g : Nat} {ls : List (Int × Ent)} {nx : Int} {S : List Nat} (h : RR B w g ls nx S) (hl : ls.length ≤ 100000) (id : Int) (x : Ent) :
    Calls Tryd.prog 21 #[.pointer (some ⟨g, 0, none⟩), .int .i64 id, encE x] w (RpinPost B w g ls nx S id x) := by
  obtain ⟨e1, e2⟩ := x
  have H := hide h
  clear h
  have hbe := Blk.new w 27 #[.int .i64 e1, .int .i64 e2]
  have hf0 := (Fr.refl [] w).alloc (.cells #[.int .i64 e1, .int .i64 e2] 27)
  simp only [encE]
  go_enter Tryd.func21, Tryd.ntmps21
  go_upto_region 1 with (fail)
  generalize World.alloc w _ = w1 at hbe hf0 ⊢
  obtain ⟨A, c, -, g1, lg1, fg, -⟩ := (H.out.fr0 hf0).see
  have HB := hide hbe
  have HF := hide hf0
  clear hbe hf0
  by_cases k1 : id < 1
  · go_wp2_with fail
    go_ret
    exact .inl ⟨.inl k1, rfl, HF.out⟩
  by_cases k2 : nx ≤ id
  · go_wp2_with fail
    go_ret
    exact .inl ⟨.inr k2, rfl, HF.out⟩
  go_wp2_with fail
  refine (rentity_calls (H.out.fr0 HF.out) (by omega) id).mono ?_
  rintro e w2 ⟨rfl, hf⟩
  have HF2 := hide (HF.out.trans hf)
  have HB2 := hide (HB.out.fr0 hf)
  clear hf HF HB g1 lg1 fg
  generalize (ownOf ls id).getD (0, 0) = y
  obtain ⟨y1, y2⟩ := y
  generalize ho : (ownOf ls id).isSome = o
  have HO := hide ho
  clear ho
  simp only [encE]
  go_upto_region 4 with (fail)
  have hf3 := HF2.out.alloc (.cells #[.int .i64 y1, .int .i64 y2] 27)
  have hb3 := HB2.out.alloc (.cells #[.int .i64 y1, .int .i64 y2] 27)
  generalize World.alloc w2 _ = w3 at hf3 hb3 ⊢
  have b0 := hb3.at_ 0 (v := .int .i64 e1) rfl
  have b1 := hb3.at_ 1 (v := .int .i64 e2) rfl
  have lb := hb3.lt
  have HF3 := hide hf3
  have HB3 := hide hb3
  clear hf3 hb3 HF2 HB2
  go_wp2_with fail
  refine (rid_calls (H.out.fr0 HF3.out) (by omega) (e1, e2)).mono ?_
  rintro e w4 ⟨rfl, hf⟩
  have HF4 := hide (HF3.out.trans hf)
  have hb4 := HB3.out.fr0 hf
  have c0 := hb4.at_ 0 (v := .int .i64 e1) rfl
  have c1 := hb4.at_ 1 (v := .int .i64 e2) rfl
  have lc := hb4.lt
  clear hf hb4 HF3 HB3 b0 b1 lb
  generalize (idOf ls (e1, e2)).getD 0 = z
  generalize hp : (idOf ls (e1, e2)).isSome = p
  have HP := hide hp
  clear hp
  cases o with
  | true =>
    go_wp2_with fail
    go_ret
    exact .inr (.inl ⟨by omega, by omega, .inl (by intro h; have := HO.out; rw [h] at this; cases this), rfl, HF4.out⟩)
  | false =>
    cases p with
    | true =>
      go_wp2_with fail
      go_ret
      exact .inr (.inl ⟨by omega, by omega, .inr (by intro h; have := HP.out; rw [h] at this; cases this), rfl, HF4.out⟩)
    | false =>
      have hno : ownOf ls id = none := by simpa using HO.out
      have hnp : idOf ls (e1, e2) = none := by simpa using HP.out
      have HN := hide (And.intro hno hnp)
      clear hno hnp
      go_wp2_with fail
      refine (radd_calls (H.out.fr0 HF4.out) (by omega) id (e1, e2)).mono ?_
      rintro e w5 ⟨rfl, S', hr, hst⟩
      have HE := hide (And.intro hr (hst.pre HF4.out))
      clear hr hst
      go_wp2_with fail
      go_ret
      exact .inr (.inr ⟨by omega, by omega, HN.out.1, HN.out.2, rfl, S', HE.out.1, HE.out.2⟩)
end Go.Proofs.YtpipgkglacmoeaaDoor

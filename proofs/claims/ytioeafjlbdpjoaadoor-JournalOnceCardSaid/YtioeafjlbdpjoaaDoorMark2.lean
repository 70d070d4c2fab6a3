/- Journal: Mark that errs; what last gives. -/
import Derived.Test.YtioeafjlbdpjoaaDoorMark
namespace Go.Proofs.YtioeafjlbdpjoaaDoor
open Go.RowKit
theorem last_cases {B : Nat} {w : World} {g : Nat} {sts : List St} {most size : Int} {S : List Nat} (h : JR B w g sts most size S) (hn : sts.length ≤ 100000) :
    (sts = [] ∧ Hid (Calls Tryd.prog 29 #[ptr g] w fun e w' => e = .returned (.pointer none) ∧ w = w')) ∨ ∃ (s : St) (xp : Nat), sts.getLast? = some s ∧ (∃ uv mv, Hid (Blk w xp 72 #[.int .i64 s.fr, uv, mv])) ∧ Hid (Calls Tryd.prog 29 #[ptr g] w fun e w' => e = .returned (ptr xp) ∧ Fr [] w w') := by
  obtain ⟨sl, rs, Q, rfl, h2, h3, h4, h5, h6, h7, rfl⟩ := h
  rw [List.length_map] at hn
  rcases List.eq_nil_or_concat rs with rfl | ⟨rs', x, rfl⟩
  · exact .inl ⟨rfl, hide (last_none h2 h3)⟩
  · rw [List.concat_eq_append] at *
    obtain ⟨uv, mv, hxb⟩ := (h4 x (by simp)).frame
    exact .inr ⟨x.2.1, x.1, by simp, ⟨uv, mv, hide hxb⟩, hide (last_some h2 h3 (by simp at hn; omega))⟩
set_option maxRecDepth 100000 in
set_option maxHeartbeats 4000000 in
theorem mark_bad {K : List Nat} {B : Nat} {w : World} {ad : Nat → Addr} (hK : KJ K) (hs : Sents K B w ad) {B' g : Nat} {sts : List St} {most size : Int} {S : List Nat} (h : JR B' w g sts most size S) (hn : sts.length ≤ 100000) {f : Int} (hok : ¬ MarkOk sts f) :
    Calls Tryd.prog 9 #[ptr g, .int .i64 f] w (ErrPost w ad 1) := by
  have c1 := hs.cell 1 hK.h1
  have l1 := Nat.lt_of_lt_of_le (hs.glob 1 hK.h1) hs.le
  have HW := hide (fun W => wrong_calls (w := W) (ad := ad) 1)
  simp only [gOf] at c1 l1
  have HC := last_cases h hn
  have hcase : f < 0 ∨ (¬ f < 0 ∧ 1073741824 < f) ∨ (¬ f < 0 ∧ ¬ 1073741824 < f ∧ ∃ s, sts.getLast? = some s ∧ f ≤ s.fr) := by
    by_cases h1 : f < 0
    · exact .inl h1
    · by_cases h2 : 1073741824 < f
      · exact .inr (.inl ⟨h1, h2⟩)
      · refine .inr (.inr ⟨h1, h2, ?_⟩)
        have := hok
        unfold MarkOk at this
        by_cases h3 : ∃ s, sts.getLast? = some s ∧ f ≤ s.fr
        · exact h3
        · exact absurd ⟨by omega, by omega, fun s hs => by
            rcases Int.lt_or_le s.fr f with h | h
            · exact h
            · exact absurd ⟨s, hs, h⟩ h3⟩ this
  have key : (decide (f < 0) = true ∨ (decide (f < 0) = false ∧ decide (1073741824 < f) = true)) ∨ ∃ (s : St) (xp : Nat), (decide (f < 0) = false ∧ decide (1073741824 < f) = false) ∧ decide (f ≤ s.fr) = true ∧ (∃ uv mv, Hid (Blk w xp 72 #[.int .i64 s.fr, uv, mv])) ∧ Hid (Calls Tryd.prog 29 #[ptr g] w fun e w' => e = .returned (ptr xp) ∧ Fr [] w w') := by
    rcases hcase with h1 | ⟨h1, h2⟩ | ⟨h1, h2, s, hs, h3⟩
    · exact .inl (.inl (decide_eq_true h1))
    · exact .inl (.inr ⟨decide_eq_false h1, decide_eq_true h2⟩)
    · rcases HC with ⟨rfl, _⟩ | ⟨s', xp, e1, e2, e3⟩
      · simp at hs
      · obtain rfl : s = s' := Option.some.inj (hs.symm.trans e1)
        exact .inr ⟨s, xp, ⟨decide_eq_false h1, decide_eq_false h2⟩, decide_eq_true h3, e2, e3⟩
  have HC2 : Hid (∃ pv, Calls Tryd.prog 29 #[ptr g] w fun e w' => e = .returned pv ∧ Fr [] w w') := hide (by
    rcases HC with ⟨_, e⟩ | ⟨_, xp, _, _, e⟩
    · exact ⟨.pointer none, e.out.mono fun e w' h => ⟨h.1, by rw [h.2]; exact Fr.refl _ _⟩⟩
    · exact ⟨ptr xp, e.out⟩)
  have HS := hide hs
  clear hs hK hok hcase HC h hn
  rcases key with h12 | ⟨s, xp, ⟨h1, h2⟩, h3, ⟨uv, mv, hxb⟩, hL⟩
  · obtain ⟨pv, hL⟩ := HC2.out
    have HL := hide hL
    clear hL HC2
    rcases h12 with h1 | ⟨h1, h2⟩
    all_goals
      go_enter Tryd.func9, Tryd.ntmps9
      go_wp2_with fail
      refine HL.out.mono ?_
      rintro e w1 ⟨rfl, hf1⟩
      have d1 := (hf1.cell l1 (by simp)).trans c1
      have k1 := Nat.lt_of_lt_of_le l1 hf1.size
      have H1 := hide hf1
      clear hf1
      go_wp2_with fail
      refine (HW.out _).mono ?_
      rintro e w' ⟨v, rfl, hn, hf⟩
      have H2 := hide (And.intro hn hf)
      obtain ⟨t, a, rfl⟩ := hn.form
      clear hn hf
      go_wp2_with fail
      go_ret
      exact ⟨_, rfl, H2.out.1.elder H1.out.size, H1.out.trans H2.out.2⟩
  · generalize s.fr = xf at *
    go_enter Tryd.func9, Tryd.ntmps9
    go_wp2_with fail
    refine hL.out.mono ?_
    rintro e w1 ⟨rfl, hf1⟩
    have xb := (hxb.out.fr0 hf1).at_ 0 (v := .int .i64 xf) rfl
    have lx := (hxb.out.fr0 hf1).lt
    have d1 := (hf1.cell l1 (by simp)).trans c1
    have k1 := Nat.lt_of_lt_of_le l1 hf1.size
    have H1 := hide hf1
    clear hxb hf1 HC2
    go_wp2_with fail
    refine (HW.out _).mono ?_
    rintro e w' ⟨v, rfl, hn, hf⟩
    have H2 := hide (And.intro hn hf)
    obtain ⟨t, a, rfl⟩ := hn.form
    clear hn hf
    go_wp2_with fail
    go_ret
    exact ⟨_, rfl, H2.out.1.elder H1.out.size, H1.out.trans H2.out.2⟩
end Go.Proofs.YtioeafjlbdpjoaaDoor

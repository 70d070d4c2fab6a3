/- Journal: Note, where nothing is kept. -/
import Derived.Test.YtioeafjlbdpjoaaDoorMark2
namespace Go.Proofs.YtioeafjlbdpjoaaDoor
open Go.RowKit
set_option maxRecDepth 100000 in
set_option maxHeartbeats 4000000 in
theorem note_nil {K : List Nat} {B : Nat} {w : World} {ad : Nat → Addr} (hK : KJ K) (hs : Sents K B w ad) (d : Ud) : Calls Tryd.prog 10 #[.pointer none, d.val] w (ErrPost w ad 2) := by
  have c1 := hs.cell 2 hK.h2
  have l1 := Nat.lt_of_lt_of_le (hs.glob 2 hK.h2) hs.le
  have HW := hide (fun W => wrong_calls (w := W) (ad := ad) 2)
  simp only [gOf] at c1 l1
  unfold Ud.val
  clear hs hK
  go_enter Tryd.func10, Tryd.ntmps10
  go_wp2_with fail
  refine (HW.out _).mono ?_
  rintro e w' ⟨v, rfl, hn, hf⟩
  have H2 := hide (And.intro hn hf)
  obtain ⟨t, a, rfl⟩ := hn.form
  clear hn hf
  go_wp2_with fail
  go_ret
  exact ⟨_, rfl, H2.out.1.elder (by simp), ((Fr.refl _ _).alloc _).trans H2.out.2⟩
set_option maxRecDepth 100000 in
set_option maxHeartbeats 4000000 in
theorem note_kind {K : List Nat} {B : Nat} {w : World} {ad : Nat → Addr} (hK : KJ K) (hs : Sents K B w ad) (g : Nat) (d : Ud) (hk : d.u.kind < 1 ∨ 9 < d.u.kind) : Calls Tryd.prog 10 #[ptr g, d.val] w (ErrPost w ad 1) := by
  have c1 := hs.cell 1 hK.h1
  have l1 := Nat.lt_of_lt_of_le (hs.glob 1 hK.h1) hs.le
  have HW := hide (fun W => wrong_calls (w := W) (ad := ad) 1)
  simp only [gOf] at c1 l1
  unfold Ud.val
  clear hs hK
  generalize d.u.kind = kd at *
  have hk' : decide (kd < 1) = true ∨ (decide (kd < 1) = false ∧ decide (9 < kd) = true) := by
    rcases hk with h | h
    · exact .inl (decide_eq_true h)
    · exact .inr ⟨decide_eq_false (by omega), decide_eq_true h⟩
  clear hk
  rcases hk' with h1 | ⟨h1, h2⟩
  all_goals
    go_enter Tryd.func10, Tryd.ntmps10
    go_wp2_with fail
    refine (HW.out _).mono ?_
    rintro e w' ⟨v, rfl, hn, hf⟩
    have H2 := hide (And.intro hn hf)
    obtain ⟨t, a, rfl⟩ := hn.form
    clear hn hf
    go_wp2_with fail
    go_ret
    exact ⟨_, rfl, H2.out.1.elder (by simp), ((Fr.refl _ _).alloc _).trans H2.out.2⟩
theorem last_nil {B : Nat} {w : World} {g : Nat} {most size : Int} {S : List Nat} (h : JR B w g [] most size S) : Calls Tryd.prog 29 #[ptr g] w fun e w' => e = .returned (.pointer none) ∧ w = w' := by
  rcases last_cases h (by simp) with ⟨_, h⟩ | ⟨s, xp, h, _⟩
  · exact h.out
  · simp at h
set_option maxRecDepth 100000 in
set_option maxHeartbeats 4000000 in
theorem note_state {K : List Nat} {B : Nat} {w : World} {ad : Nat → Addr} (hK : KJ K) (hs : Sents K B w ad) {B' g : Nat} {most size : Int} {S : List Nat} (h : JR B' w g [] most size S) (d : Ud) (hk1 : 1 ≤ d.u.kind) (hk2 : d.u.kind ≤ 9) : Calls Tryd.prog 10 #[ptr g, d.val] w (ErrPost w ad 8) := by
  have c1 := hs.cell 8 hK.h8
  have l1 := Nat.lt_of_lt_of_le (hs.glob 8 hK.h8) hs.le
  have HW := hide (fun W => wrong_calls (w := W) (ad := ad) 8)
  simp only [gOf] at c1 l1
  unfold Ud.val
  generalize d.u.kind = kd at *
  have h1 : decide (kd < 1) = false := decide_eq_false (by omega)
  have h2 : decide (9 < kd) = false := decide_eq_false (by omega)
  have HL := hide (fun W (hf : Fr [] w W) => last_nil (h.fr0 hf))
  clear hs hK h hk1 hk2
  go_enter Tryd.func10, Tryd.ntmps10
  go_wp2_with fail
  refine (HL.out _ ((Fr.refl _ _).alloc _)).mono ?_
  rintro e w' ⟨rfl, rfl⟩
  go_wp2_with fail
  refine (HW.out _).mono ?_
  rintro e w' ⟨v, rfl, hn, hf⟩
  have H2 := hide (And.intro hn hf)
  obtain ⟨t, a, rfl⟩ := hn.form
  clear hn hf
  go_wp2_with fail
  go_ret
  exact ⟨_, rfl, H2.out.1.elder (by simp), ((Fr.refl _ _).alloc _).trans H2.out.2⟩
end Go.Proofs.YtioeafjlbdpjoaaDoor

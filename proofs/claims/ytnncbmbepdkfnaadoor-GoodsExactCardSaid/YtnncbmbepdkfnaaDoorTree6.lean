/- blame.All, blame.At. -/
import Derived.Test.YtnncbmbepdkfnaaDoorTree5
namespace Go.Proofs.YtnncbmbepdkfnaaDoor
open Go.RowKit Go.Extern.Stop Go.Stop Go.Extern
set_option maxRecDepth 100000 in
set_option maxHeartbeats 1000000 in
theorem all_ev {B : Nat} {w : World} {ad : Nat → Addr} {v : Value} {vs : List Value} {css : List (List Ch)} (hv : w.ownsRow B 26 1 v css.length vs) (hL : EL w ad vs css) (hl : css.length ≤ 100000) (hsum : css.flatten.length ≤ 100000) :
    Calls Tryd.prog 40 #[v] w fun e w' => ∃ x, e = .returned x ∧ EV w' ad x css.flatten ∧ Fr [] w w' := by
  have H := hide (flat_ev hv hL hl hsum)
  clear hv hL
  generalize css.flatten = cs at *
  go_enter Tryd.func40, Tryd.ntmps40
  go_wp2_with fail
  refine H.out.mono ?_
  rintro e w2 ⟨v', vs', rfl, hr, hL, hf⟩
  obtain ⟨A, c, rfl⟩ : ∃ A c, v' = .slice A cs.length c := by
    rcases row_form hr with ⟨rfl, h0, _⟩ | ⟨g, cap, rfl, _⟩
    · exact ⟨none, 0, by rw [h0]⟩
    · exact ⟨_, _, rfl⟩
  have Hf := hide hf
  have HL_ := hide hL
  rcases cs with _ | ⟨c1, _ | ⟨c2, cs⟩⟩
  · clear hr hf hL
    go_wp2_with fail
    go_ret
    exact ⟨_, rfl, .inl ⟨rfl, rfl⟩, Hf.out⟩
  · rcases row_form hr with ⟨_, h0, _⟩ | ⟨g, cap, e, _, hlg, _⟩
    · cases h0
    · injection e with e1 e2 e3
      subst e1; subst e3
      obtain ⟨v1, hv1⟩ : ∃ v1, vs'[0]? = some v1 := ⟨_, List.getElem?_eq_getElem (by rw [hL.1]; simp)⟩
      have hc := hL.2 0 v1 c1 hv1 rfl
      have k0 := row_cell hr (i := 0) hv1
      clear hr hf hL hv1
      have Hc := hide hc
      rcases hc.form with ⟨b, rfl⟩ | ⟨a, rfl⟩
      all_goals
        clear hc
        go_wp2_with fail
        go_ret
        exact ⟨_, rfl, .inr (.inl ⟨c1, rfl, Hc.out.fr0 Hf.out⟩), Hf.out⟩
  · rcases row_form hr with ⟨_, h0, _⟩ | ⟨g, cap, e, _, hlg, _⟩
    · cases h0
    · injection e with e1 e2 e3
      subst e1; subst e3
      have h2 : (2 : Int) ≤ ((c1 :: c2 :: cs).length : Int) := by simp; omega
      have h3 : 2 ≤ (c1 :: c2 :: cs).length := by simp
      have HR := hide hr
      generalize hds : c1 :: c2 :: cs = ds at *
      have Hds := hide hds
      clear hds
      have h2' : (ds.length : Int) ≠ 0 := by omega
      have h2'' : (ds.length : Int) ≠ 1 := by omega
      clear hr hf hL
      go_wp2_with fail
      go_ret
      obtain rfl := Hds.out
      exact ⟨_, rfl, .inr (.inr ⟨h3, _, rfl, g, _, vs', Blk.new _ _ _, row_base (row_fr HR.out ((Fr.refl [] w2).alloc _) (by simp)) (Nat.zero_le _), HL_.out.1, fun i v c hv hc => (HL_.out.2 i v c hv hc).fr0 (Hf.out.alloc _)⟩), Hf.out.alloc _⟩
/-- a Blame over errors -/
def WE (w : World) (ad : Nat → Addr) (v : Value) (s : ByteArray) (cs : List Ch) : Prop := ∃ b v0, v = bv b ∧ Blk w b 107 #[.string s, v0] ∧ EV w ad v0 cs ∧ cs ≠ []
theorem at_ev {w : World} {ad : Nat → Addr} {v : Value} {cs : List Ch} (h : EV w ad v cs) (s : ByteArray) :
    Calls Tryd.prog 41 #[.string s, v] w fun e w' => ∃ x, e = .returned x ∧ (cs = [] → x = .nilIface) ∧ (cs ≠ [] → WE w' ad x s cs) ∧ Fr [] w w' := by
  rcases h.form with ⟨rfl, hc⟩ | ⟨hc, t, a, rfl⟩
  · subst hc
    clear h
    go_enter Tryd.func41, Tryd.ntmps41
    go_wp2_with fail
    go_ret
    exact ⟨_, rfl, fun _ => rfl, fun h => absurd rfl h, Fr.refl _ _⟩
  · refine (at_err s _ _ w).mono ?_
    rintro e w' ⟨rfl, rfl⟩
    have hf : Fr [] w _ := (Fr.refl [] w).alloc (.cells #[.string s, .iface t (.pointer (some a))] 107)
    exact ⟨_, rfl, fun h => absurd h hc, fun _ => ⟨_, _, rfl, Blk.new _ _ _, h.fr0 hf, hc⟩, hf⟩
theorem WE.one {w : World} {ad : Nat → Addr} {v : Value} {s : ByteArray} {c : Ch} (h : WE w ad v s [c]) : HC w ad v (s :: c.1, c.2) := by
  obtain ⟨b, v0, rfl, hb, hv, -⟩ := h
  rcases hv with ⟨-, h⟩ | ⟨c', hc, h1, h2, T, hT⟩ | ⟨h, -⟩
  · cases h
  · obtain rfl : c = c' := by simpa using hc
    exact ⟨h1, h2, _, .blame b s v0 c.1 T hb hT⟩
  · simp at h
end Go.Proofs.YtnncbmbepdkfnaaDoor

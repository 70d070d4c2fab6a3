/- blame.flat, blame.All, blame.At of errors with their leaves. -/
import Derived.Test.YtnncbmbepdkfnaaDoorTree3
namespace Go.Proofs.YtnncbmbepdkfnaaDoor
open Go.RowKit Go.Extern.Stop Go.Stop Go.Extern
theorem row_base {w : World} {B B' : Nat} {t : TypeId} {size n : Nat} {v : Value} {xs : List Value} (h : w.ownsRow B t size v n xs) (hb : B' ≤ B) : w.ownsRow B' t size v n xs := by
  refine ⟨h.1, ?_⟩
  rcases h.2 with h0 | ⟨k, cap, cur, hv, hb', hg, q1, q2, q3, q4⟩
  · exact .inl h0
  · exact .inr ⟨k, cap, cur, hv, by omega, hg, q1, q2, q3, q4⟩
def HL (w : World) (ad : Nat → Addr) (vs : List Value) (cs : List Ch) : Prop := vs.length = cs.length ∧ ∀ (i : Nat) v c, vs[i]? = some v → cs[i]? = some c → HC w ad v c
section
variable {w w' : World} {ad : Nat → Addr} {vs us : List Value} {cs ds : List Ch}
theorem HL.nil : HL w ad [] [] := ⟨rfl, by simp⟩
theorem HL.fr0 (h : HL w ad vs cs) (hf : Fr [] w w') : HL w' ad vs cs := ⟨h.1, fun i v c hv hc => (h.2 i v c hv hc).fr0 hf⟩
theorem HL.app (h : HL w ad vs cs) (h' : HL w ad us ds) : HL w ad (vs ++ us) (cs ++ ds) := by
  refine ⟨by rw [List.length_append, List.length_append, h.1, h'.1], fun i v c hv hc => ?_⟩
  rcases Nat.lt_or_ge i vs.length with hi | hi
  · rw [List.getElem?_append_left hi] at hv
    rw [List.getElem?_append_left (by rw [← h.1]; exact hi)] at hc
    exact h.2 i v c hv hc
  · rw [List.getElem?_append_right hi] at hv
    rw [List.getElem?_append_right (by rw [← h.1]; exact hi), ← h.1] at hc
    exact h'.2 _ v c hv hc
theorem HL.one {v : Value} {c : Ch} (h : HC w ad v c) : HL w ad [v] [c] := by
  refine ⟨rfl, fun i v' c' hv hc => ?_⟩
  cases i with
  | zero =>
    obtain rfl : v = v' := by simpa using hv
    obtain rfl : c = c' := by simpa using hc
    exact h
  | succ i => simp at hv
theorem HL.ones (h : HL w ad vs cs) : ∀ v ∈ vs, v.oneCell' = true := by
  intro v hv
  obtain ⟨i, hi⟩ := List.getElem?_of_mem hv
  have hlt := (List.getElem?_eq_some_iff.1 hi).1
  exact (h.2 i v (cs[i]'(by rw [← h.1]; exact hlt)) hi (List.getElem?_eq_getElem (by rw [← h.1]; exact hlt))).ev.one
/-- errors, each with its leaves -/
def EL (w : World) (ad : Nat → Addr) (vs : List Value) (css : List (List Ch)) : Prop := vs.length = css.length ∧ ∀ (i : Nat) v c, vs[i]? = some v → css[i]? = some c → EV w ad v c
theorem EL.fr0 {css : List (List Ch)} (h : EL w ad vs css) (hf : Fr [] w w') : EL w' ad vs css := ⟨h.1, fun i v c hv hc => (h.2 i v c hv hc).fr0 hf⟩
theorem EL.app {css dss : List (List Ch)} (h : EL w ad vs css) (h' : EL w ad us dss) : EL w ad (vs ++ us) (css ++ dss) := by
  refine ⟨by rw [List.length_append, List.length_append, h.1, h'.1], fun i v c hv hc => ?_⟩
  rcases Nat.lt_or_ge i vs.length with hi | hi
  · rw [List.getElem?_append_left hi] at hv
    rw [List.getElem?_append_left (by rw [← h.1]; exact hi)] at hc
    exact h.2 i v c hv hc
  · rw [List.getElem?_append_right hi] at hv
    rw [List.getElem?_append_right (by rw [← h.1]; exact hi), ← h.1] at hc
    exact h'.2 _ v c hv hc
theorem EL.one {v : Value} {c : List Ch} (h : EV w ad v c) : EL w ad [v] [c] := by
  refine ⟨rfl, fun i v' c' hv hc => ?_⟩
  cases i with
  | zero =>
    obtain rfl : v = v' := by simpa using hv
    obtain rfl : c = c' := by simpa using hc
    exact h
  | succ i => simp at hv
theorem EL.nil : EL w ad [] [] := ⟨rfl, by simp⟩
theorem HL.el (h : HL w ad vs cs) : EL w ad vs (cs.map fun c => [c]) := by
  refine ⟨by rw [List.length_map]; exact h.1, fun i v c hv hc => ?_⟩
  rw [List.getElem?_map] at hc
  obtain ⟨c', hc', rfl⟩ := Option.map_eq_some_iff.mp hc
  exact (h.2 i v c' hv hc').ev
end
theorem notSevB (v : Value) (w : World) : (Instr.typeAssert (.iface 104 v) 26 108 true).run Tryd.prog w = .ok (.tuple #[.pointer none, .bool false]) w := by kernel_rfl
theorem notSevE (v : Value) (w : World) : (Instr.typeAssert (.iface 152 v) 26 108 true).run Tryd.prog w = .ok (.tuple #[.pointer none, .bool false]) w := by kernel_rfl
theorem isSevS (v : Value) (w : World) : (Instr.typeAssert (.iface 108 v) 26 108 true).run Tryd.prog w = .ok (.tuple #[v, .bool true]) w := by kernel_rfl
def FlatPost (ad : Nat → Addr) (w : World) (cs : List Ch) (e : Ending) (w' : World) : Prop := ∃ v' vs', e = .returned v' ∧ w'.ownsRow w.heap.size 26 1 v' cs.length vs' ∧ HL w ad vs' cs ∧ Fr [] w w'
set_option maxRecDepth 100000 in
set_option maxHeartbeats 2000000 in
/-- a row without Severals -/
theorem flat_ch {B : Nat} {w : World} {ad : Nat → Addr} {v : Value} {vs : List Value} {cs : List Ch} (hv : w.ownsRow B 26 1 v cs.length vs) (hL : HL w ad vs cs) (hl : cs.length ≤ 100000) :
    Calls Tryd.prog 53 #[v] w fun e w' => ∃ v', e = .returned v' ∧ w'.ownsRow w.heap.size 26 1 v' cs.length vs ∧ Fr [] w w' := by
  obtain ⟨i0, hi0, hz0, hs0, hb0⟩ := info_parts infoErr
  have HV := hide hv
  have HL_ := hide hL
  obtain ⟨A, c, rfl⟩ : ∃ A c, v = .slice A cs.length c := by
    rcases row_form hv with ⟨rfl, h0, _⟩ | ⟨g, cap, rfl, _⟩
    · exact ⟨none, 0, by rw [h0]⟩
    · exact ⟨_, _, rfl⟩
  clear hv hL
  have n0 : (0 : Int) ≤ (cs.length : Int) := by omega
  go_enter Tryd.func53, Tryd.ntmps53
  go_wp2_with fail
  go_loopw [2, 10] (fun s2 s10 wr => ∃ k : Nat, k ≤ cs.length ∧ s10 = .int .i64 k ∧ wr.ownsRow w.heap.size 26 1 s2 k (vs.take k) ∧ Fr [] w wr) (fun _ s10 _ => cs.length - (intOf s10).toNat)
  case atStart => exact ⟨0, by omega, rfl, World.ownsRow_nil _ _ _ _, Fr.refl _ _⟩
  case round =>
    obtain ⟨k, hk, rfl, hrow, hf⟩ := hrel
    by_cases hk1 : k < cs.length
    · obtain ⟨v, hv⟩ : ∃ v, vs[k]? = some v := ⟨_, List.getElem?_eq_getElem (by rw [HL_.out.1]; exact hk1)⟩
      have hc := HL_.out.2 k v cs[k] hv (List.getElem?_eq_getElem hk1)
      rcases row_form HV.out with ⟨_, h0, _⟩ | ⟨g, cap, e, hBg, hlg, hcap, hmx⟩
      · omega
      · injection e with e1 e2 e3
        subst e1; subst e3
        have k0 := row_cell HV.out (i := k) hv
        have k1 : wr.cell? ⟨g, k, none⟩ = some v := (hf.cell (p := ⟨g, k, none⟩) hlg (by simp)).trans k0
        have lg : g < wr.heap.size := Nat.lt_of_lt_of_le hlg hf.size
        have i1 : (0 : Int) ≤ (k : Int) := by omega
        have i2 : (k : Int) < (cs.length : Int) := by omega
        have hsz := hf.size
        have HR := hide (And.intro hrow (And.intro hf hv))
        clear hrow hf k0 hv
        have hn := eql_nil_false
        have nB := notSevB
        have nE := notSevE
        rcases hc.form with ⟨b, rfl⟩ | ⟨a, rfl⟩
        all_goals
          clear hc
          go_wp2_with (first | at_builtin; refine wpList_append_lies _ rfl _ _ _ rfl w.heap.size 26 i0 _ 1 16 Tryd.underlying86 hi0 hz0 hs0 hb0 rfl (by omega) (u2) (k) (vs.take k) rfl ((HR.out.1.alloc _)) ⟨wr.heap.size, 0, none⟩ 1 1 [bv b] rfl rfl (World.news_of_block (cs := #[bv b]) (t := 26) (fr := (0, 0)) (Blk.new_at _ _ _ _ (by simp))) (by simp [Value.oneCell']) (by omega) (by unfold maxLen; omega) (by omega) (by simp; omega) (wr.heap.size + 1) (by simp) ?_; intro ag0 ac0 aw0 aown0 agrow0 aat0 alt0 | at_builtin; refine wpList_append_lies _ rfl _ _ _ rfl w.heap.size 26 i0 _ 1 16 Tryd.underlying86 hi0 hz0 hs0 hb0 rfl (by omega) (u2) (k) (vs.take k) rfl ((HR.out.1.alloc _)) ⟨wr.heap.size, 0, none⟩ 1 1 [sv a] rfl rfl (World.news_of_block (cs := #[sv a]) (t := 26) (fr := (0, 0)) (Blk.new_at _ _ _ _ (by simp))) (by simp [Value.oneCell']) (by omega) (by unfold maxLen; omega) (by omega) (by simp; omega) (wr.heap.size + 1) (by simp) ?_; intro ag0 ac0 aw0 aown0 agrow0 aat0 alt0)
          have hfin := hide (And.intro aown0 (And.intro agrow0 aat0))
          obtain ⟨hrow, hf, hv⟩ := HR.out
          have hv0 : ∀ x, u2.ownBlock = some x → w.heap.size ≤ x := fun x hx => (row_lt hrow hx).2
          go_roundw
          case rel =>
            refine ⟨k + 1, by omega, by go_num, ?_, (hf.alloc _).grown hfin.out.2.1 fun x hx => .inr (hv0 x hx)⟩
            rw [List.take_add_one, hv]
            exact hfin.out.1
          case measure => simp [intOf]; omega
    · have hkn : k = cs.length := by omega
      subst hkn
      rw [List.take_of_length_le (by rw [HL_.out.1]; omega)] at hrow
      have HR := hide (And.intro hrow hf)
      clear hrow hf
      go_wp2_with fail
      go_ret
      exact ⟨_, rfl, HR.out.1, HR.out.2⟩
end Go.Proofs.YtnncbmbepdkfnaaDoor

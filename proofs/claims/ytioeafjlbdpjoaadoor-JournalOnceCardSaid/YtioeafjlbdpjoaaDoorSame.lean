/- Same of the reference of layer 4, by a contract. -/
import Derived.Test.YtioeafjlbdpjoaaDoorRest
namespace Go.Proofs.YtioeafjlbdpjoaaDoor
open Go.RowKit

def ints (l : List Int) : List Value := l.map (Value.int .i64)
theorem ints_get {l : List Int} {i : Nat} {x : Int} (h : l[i]? = some x) : (ints l)[i]? = some (.int .i64 x) := by simp [ints, h]
theorem ints_len (l : List Int) : (ints l).length = l.length := by simp [ints]

theorem same_len {w : World} {va vb : Value} {n m ca cb : Nat} {A Bd : Option Addr} (hl : n ≤ 4611686018427387903) (hm : m ≤ 4611686018427387903) (hne : n ≠ m) (hva : va = .slice A n ca) (hvb : vb = .slice Bd m cb) :
    Calls Tryd.prog 27 #[va, vb] w fun e w' => e = .returned (.bool false) ∧ w = w' := by
  subst hva; subst hvb
  have h1 : (!((n : Int) == (m : Int))) = true := by simp; omega
  have h2 : ((n : Int) == (m : Int)) = false := by simp; omega
  go_enter Tryd.func27, Tryd.ntmps27
  go_wp2_with fail
  all_goals (go_ret; exact ⟨rfl, rfl⟩)

set_option maxRecDepth 100000 in
set_option maxHeartbeats 2000000 in
theorem same_calls {B B' : Nat} {w : World} {va vb : Value} {xs ys : List Int} (ha : w.ownsRow B 3 1 va xs.length (ints xs)) (hb : w.ownsRow B' 3 1 vb ys.length (ints ys)) (hla : xs.length ≤ 4611686018427387903) (hlb : ys.length ≤ 4611686018427387903) :
    Calls Tryd.prog 27 #[va, vb] w fun e w' => e = .returned (.bool (decide (xs = ys))) ∧ Fr [] w w' := by
  have fa : ∃ A c, va = .slice A xs.length c := by
    rcases row_form ha with ⟨rfl, h0, _⟩ | ⟨g, c, rfl, _⟩
    · exact ⟨_, _, by rw [h0]⟩
    · exact ⟨_, _, rfl⟩
  have fb : ∃ A c, vb = .slice A ys.length c := by
    rcases row_form hb with ⟨rfl, h0, _⟩ | ⟨g, c, rfl, _⟩
    · exact ⟨_, _, by rw [h0]⟩
    · exact ⟨_, _, rfl⟩
  by_cases hne : xs.length = ys.length
  · by_cases h0 : xs.length = 0
    · obtain ⟨A, c, rfl⟩ := fa
      obtain ⟨A', c', rfl⟩ := fb
      have e1 : xs = [] := List.eq_nil_of_length_eq_zero h0
      have e2 : ys = [] := List.eq_nil_of_length_eq_zero (by omega)
      subst e1; subst e2
      clear ha hb hne h0
      go_enter Tryd.func27, Tryd.ntmps27
      go_wp2_with fail
      go_loopw [5] (fun s wr => s = .int .i64 0 ∧ w = wr) (fun _ _ => 0)
      case atStart => exact ⟨rfl, rfl⟩
      case round =>
        obtain ⟨rfl, rfl⟩ := hrel
        go_wp2_with fail
        go_ret
        exact ⟨by simp, Fr.refl _ _⟩
    · rcases row_form ha with ⟨_, h0', _⟩ | ⟨ga, ca, rfl, _, la, _⟩
      · omega
      rcases row_form hb with ⟨_, h0', _⟩ | ⟨gb, cb, rfl, _, lb, _⟩
      · omega
      have Ha := hide ha
      have Hb := hide hb
      obtain ⟨n, hn⟩ : ∃ n, n = xs.length := ⟨_, rfl⟩
      have Hn := hide (And.intro hn hne)
      rw [← hne, ← hn]
      rw [← hn] at hla
      clear ha hb fa fb hne h0 hlb hn
      have hq : ((n : Int) == (n : Int)) = true := by simp
      go_enter Tryd.func27, Tryd.ntmps27
      go_wp2_with fail
      go_loopw [5] (fun s wr => ∃ k : Nat, k ≤ n ∧ s = .int .i64 k ∧ xs.take k = ys.take k ∧ Fr [] w wr) (fun s _ => n - (intOf s).toNat)
      case atStart => exact ⟨0, by omega, rfl, by simp, Fr.refl _ _⟩
      case round =>
        obtain ⟨k, hk, rfl, ht, hf⟩ := hrel
        obtain ⟨hn, hne⟩ := Hn.out
        by_cases hkn : k < n
        · have xa : xs[k]? = some (xs[k]'(by omega)) := by simp
          have xb : ys[k]? = some (ys[k]'(by omega)) := by simp
          have c1 := row_cell (row_fr Ha.out hf (by simp)) (i := k) (ints_get xa)
          have c2 := row_cell (row_fr Hb.out hf (by simp)) (i := k) (ints_get xb)
          have hs1 : xs.take (k + 1) = xs.take k ++ [xs[k]'(by omega)] := by rw [List.take_succ_eq_append_getElem (by omega)]
          have hs2 : ys.take (k + 1) = ys.take k ++ [ys[k]'(by omega)] := by rw [List.take_succ_eq_append_getElem (by omega)]
          have k0 : (0 : Int) ≤ (k : Int) := by omega
          have k1 : (k : Int) < (n : Int) := by omega
          generalize xs[k]'_ = a at *
          generalize ys[k]'_ = b at *
          have K := hide (And.intro ht (And.intro hf (And.intro hs1 (And.intro hs2 (And.intro xa xb)))))
          clear ht hf hs1 hs2 xa xb hn hne
          by_cases hab : a = b
          · have q1 : (!(a == b)) = false := by simp [hab]
            have q2 : (a == b) = true := by simp [hab]
            have Hab := hide hab
            clear hab
            go_wp2_with fail
            go_quiet (fail)
            go_wp2_with fail
            go_roundw
            case rel => exact ⟨k + 1, by omega, by go_num, by rw [K.out.2.2.1, K.out.2.2.2.1, K.out.1, Hab.out], K.out.2.1.drewN _⟩
            case measure => simp [intOf]; omega
          · have q1 : (!(a == b)) = true := by simp [hab]
            have q2 : (a == b) = false := by simp [hab]
            have Hab := hide hab
            clear hab
            go_wp2_with fail
            go_quiet (fail)
            go_wp2_with fail
            go_ret
            refine ⟨ret_eq (bool_eq ?_), K.out.2.1.drewN _⟩
            symm
            rw [decide_eq_false_iff_not]
            rintro rfl
            exact Hab.out (by have := K.out.2.2.2.2.1.symm.trans K.out.2.2.2.2.2; simpa using this)
        · have hkn' : k = n := by omega
          have hfin : xs = ys := by
            rw [List.take_of_length_le (by omega), List.take_of_length_le (by omega)] at ht
            exact ht
          have Hf := hide (And.intro hf hfin)
          clear hf hfin ht hkn' hn hne
          go_wp2_with fail
          go_ret
          exact ⟨ret_eq (bool_eq (by simp [Hf.out.2])), Hf.out.1⟩
  · obtain ⟨A, c, rfl⟩ := fa
    obtain ⟨A', c', rfl⟩ := fb
    refine (same_len hla hlb hne rfl rfl).mono ?_
    rintro e w' ⟨rfl, rfl⟩
    refine ⟨ret_eq (bool_eq ?_), Fr.refl _ _⟩
    symm
    rw [decide_eq_false_iff_not]
    rintro rfl
    exact hne rfl
end Go.Proofs.YtioeafjlbdpjoaaDoor

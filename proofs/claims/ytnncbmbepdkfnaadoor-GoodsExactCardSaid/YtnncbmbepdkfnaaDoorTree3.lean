/- errors.Is, blame.Of, blame.Has, blame.Number of errors with their leaves. -/
import Derived.Test.YtnncbmbepdkfnaaDoorTree2
namespace Go.Proofs.YtnncbmbepdkfnaaDoor
open Go.RowKit Go.Extern.Stop Go.Stop Go.Extern
set_option maxRecDepth 100000 in
set_option maxHeartbeats 1000000 in
theorem is_several {B : Nat} {w : World} {ad : Nat → Addr} (hs : Sents All18 B w ad) {j : Nat} (hj : j ∈ All18) {g : Nat} {cs : List Ch} (h : HS w ad g cs) (hn : 0 < cs.length) (hl : cs.length ≤ 1000000) :
    Calls Tryd.prog 17 #[se g, sv (ad j)] w fun e w' => e = .returned (.bool (decide (j ∈ nums cs))) ∧ Fr [] w w' := by
  have h8 := @run_callFunc_extern Tryd.prog 30 _ Extern.ReflectliteType.typeOf Tryd.func30 (by kernel_rfl) (by kernel_rfl) (by kernel_rfl) (by kernel_rfl)
  have h32 := @run_callFunc_extern Tryd.prog 99 _ cmpRow Tryd.func99 (by kernel_rfl) (by kernel_rfl) (by kernel_rfl) (by kernel_rfl)
  have tT := isTypeOf
  have cT := isComparable
  have mR := isMethodComparable
  have n0 := eql_nil_false
  have Hl := hide (is_sev hs hj h hn hl)
  clear hs h
  go_enter Tryd.func17, Tryd.ntmps17
  go_wp2_with fail
  refine Hl.out.mono ?_
  rintro e w' ⟨rfl, hf⟩
  have Hf := hide hf
  clear hf
  go_wp2_with fail
  go_ret
  exact ⟨rfl, Hf.out⟩
theorem is_ev {B : Nat} {w : World} {ad : Nat → Addr} (hs : Sents All18 B w ad) {j : Nat} (hj : j ∈ All18) {v : Value} {cs : List Ch} (h : EV w ad v cs) (hl : cs.length ≤ 1000000) :
    Calls Tryd.prog 17 #[v, sv (ad j)] w fun e w' => e = .returned (.bool (decide (j ∈ nums cs))) ∧ Fr [] w w' := by
  rcases h with ⟨rfl, rfl⟩ | ⟨c, rfl, h1, h2, T, hT⟩ | ⟨hn, g, rfl, h⟩
  · refine (is_nil _ _).mono ?_
    rintro e w' ⟨rfl, rfl⟩
    exact ⟨rfl, Fr.refl _ _⟩
  · refine (is_chain hs hj (mem_all18 h1 h2) hT.chain).mono ?_
    rintro e w' ⟨rfl, rfl⟩
    refine ⟨ret_eq (bool_eq ?_), Fr.refl _ _⟩
    by_cases he : c.2 = j
    · rw [decide_eq_true he, decide_eq_true (by simp [nums, he])]
    · rw [decide_eq_false he, decide_eq_false (by simpa [nums] using fun h => he h.symm)]
  · exact is_several hs hj h (by omega) hl
theorem EV.form {w : World} {ad : Nat → Addr} {v : Value} {cs : List Ch} (h : EV w ad v cs) : (v = .nilIface ∧ cs = []) ∨ (cs ≠ [] ∧ ∃ t a, v = .iface t (.pointer (some a))) := by
  rcases h with h | ⟨c, rfl, h⟩ | ⟨hn, g, rfl, h⟩
  · exact .inl h
  · rcases h.form with ⟨b, rfl⟩ | ⟨a, rfl⟩
    · exact .inr ⟨by simp, _, _, rfl⟩
    · exact .inr ⟨by simp, _, _, rfl⟩
  · exact .inr ⟨by rintro rfl; simp at hn, _, _, rfl⟩
set_option maxHeartbeats 1000000 in
theorem of_none {w : World} (n : Int) (hn : n < 1 ∨ 18 < n) : Calls Tryd.prog 46 #[.int .i64 n] w fun e w' => e = .returned .nilIface ∧ w = w' := by
  have e1 : n ≠ 1 := by omega
  have e2 : n ≠ 2 := by omega
  have e3 : n ≠ 3 := by omega
  have e4 : n ≠ 4 := by omega
  have e5 : n ≠ 5 := by omega
  have e6 : n ≠ 6 := by omega
  have e7 : n ≠ 7 := by omega
  have e8 : n ≠ 8 := by omega
  have e9 : n ≠ 9 := by omega
  have e10 : n ≠ 10 := by omega
  have e11 : n ≠ 11 := by omega
  have e12 : n ≠ 12 := by omega
  have e13 : n ≠ 13 := by omega
  have e14 : n ≠ 14 := by omega
  have e15 : n ≠ 15 := by omega
  have e16 : n ≠ 16 := by omega
  have e17 : n ≠ 17 := by omega
  have e18 : n ≠ 18 := by omega
  clear hn
  go_enter Tryd.func46, Tryd.ntmps46
  go_wp2_with fail
  go_ret
  exact ⟨rfl, rfl⟩
set_option maxHeartbeats 1000000 in
theorem has_none {w : World} (v : Value) (n : Int) (hn : n < 1 ∨ 18 < n) : Calls Tryd.prog 36 #[v, .int .i64 n] w fun e w' => e = .returned (.bool false) ∧ w = w' := by
  have Ho := hide (of_none (w := w) n hn)
  have n1 : ∀ (W : World), (binOp .neq 26 .nilIface .nilIface).run Tryd.prog W = .ok (.bool false) W := fun W => by kernel_rfl
  clear hn
  go_enter Tryd.func36, Tryd.ntmps36
  go_wp2_with fail
  refine Ho.out.mono ?_
  rintro e w' ⟨rfl, rfl⟩
  go_wp2_with fail
  go_ret
  exact ⟨rfl, rfl⟩
set_option maxHeartbeats 1000000 in
theorem has_ev {B : Nat} {w : World} {ad : Nat → Addr} (hs : Sents All18 B w ad) (n : Nat) (h1 : 1 ≤ n) (h2 : n ≤ 18) {v : Value} {cs : List Ch} (h : EV w ad v cs) (hl : cs.length ≤ 1000000) :
    Calls Tryd.prog 36 #[v, .int .i64 n] w fun e w' => e = .returned (.bool (decide (n ∈ nums cs))) ∧ Fr [] w w' := by
  have Ho := hide (of_calls hs n h1 h2)
  have Hi := hide (is_ev hs (mem_all18 h1 h2) h hl)
  have n1 : ∀ (t : TypeId) (x : Value) (W : World), (binOp .neq 26 (.iface t x) .nilIface).run Tryd.prog W = .ok (.bool true) W := fun t x W => run_neq_held_nil W 26 t x (by kernel_rfl)
  clear hs h
  go_enter Tryd.func36, Tryd.ntmps36
  go_wp2_with fail
  refine Ho.out.mono ?_
  rintro e w' ⟨rfl, rfl⟩
  go_wp2_with fail
  refine Hi.out.mono ?_
  rintro e w' ⟨rfl, hf⟩
  have Hf := hide hf
  clear hf
  go_wp2_with fail
  go_ret
  exact ⟨rfl, Hf.out⟩
/-- the least number of the leaves; 0: there are none -/
def Least (cs : List Ch) (k : Nat) : Prop := (cs = [] ∧ k = 0) ∨ (k ∈ nums cs ∧ 1 ≤ k ∧ k ≤ 18 ∧ ∀ m ∈ nums cs, k ≤ m)
set_option maxRecDepth 100000 in
set_option maxHeartbeats 1000000 in
theorem number_ev {B : Nat} {w : World} {ad : Nat → Addr} (hs : Sents All18 B w ad) {v : Value} {cs : List Ch} (h : EV w ad v cs) (hl : cs.length ≤ 1000000) {k : Nat} (hk : Least cs k) :
    Calls Tryd.prog 23 #[v] w fun e w' => e = .returned (.int .i64 k) ∧ Fr [] w w' := by
  have n0 := eql_nil_false
  have Hh : Hid (∀ W (n : Nat), Fr [] w W → 1 ≤ n → n ≤ 18 → Calls Tryd.prog 36 #[v, .int .i64 n] W fun e w' => e = .returned (.bool (decide (n ∈ nums cs))) ∧ Fr [] W w') := hide fun W n hf h1 h2 => has_ev (hs.fr0 hf) n h1 h2 (h.fr0 hf) hl
  rcases h.form with ⟨rfl, hcs⟩ | ⟨hcs, t, a, rfl⟩
  · rcases hk with ⟨-, rfl⟩ | ⟨hm, -⟩
    · clear hs h
      go_enter Tryd.func23, Tryd.ntmps23
      go_wp2_with fail
      go_ret
      exact ⟨rfl, Fr.refl _ _⟩
    · rw [hcs] at hm; simp at hm
  · rcases hk with ⟨hc, -⟩ | ⟨hm, k1, k2, hle⟩
    · exact absurd hc hcs
    have Hm := hide hm
    have Hle := hide hle
    clear hs h hcs hm hle
    go_enter Tryd.func23, Tryd.ntmps23
    go_wp2_with fail
    go_loopw [6] (fun s wr => Fr [] w wr ∧ ∃ n : Nat, n < k ∧ s = .int .i64 n) (fun s _ => 18 - (intOf s).toNat)
    case atStart => exact ⟨Fr.refl _ _, 0, by omega, rfl⟩
    case round =>
      obtain ⟨hf, n, hn, rfl⟩ := hrel
      have hn18 : n < 18 := by omega
      have Hr := hide (Hh.out wr (n + 1) hf (by omega) (by omega))
      have Hf := hide hf
      clear hf
      by_cases hd : k = n + 1
      · have hb : decide ((n + 1) ∈ nums cs) = true := by rw [← hd]; simpa using Hm.out
        rw [hb] at Hr
        have Hd := hide hd
        clear hb hd
        go_wp2_with fail
        refine Hr.out.mono ?_
        rintro e w' ⟨rfl, hf⟩
        have Hf2 := hide (Hf.out.trans hf)
        clear hf
        go_wp2_with fail
        go_ret
        exact ⟨ret_eq (int_eq (by have := Hd.out; omega)), Hf2.out⟩
      · have hb : decide ((n + 1) ∈ nums cs) = false := by
          simp only [decide_eq_false_iff_not]
          intro hx
          have := Hle.out _ hx
          omega
        rw [hb] at Hr
        have hlt : n + 1 < k := by omega
        clear hb hd
        go_wp2_with fail
        refine Hr.out.mono ?_
        rintro e w' ⟨rfl, hf⟩
        have Hf2 := hide (Hf.out.trans hf)
        clear hf
        go_wp2_with fail
        go_roundw
        case rel => exact ⟨Hf2.out, n + 1, hlt, by go_num⟩
        case measure => simp [intOf]; omega
end Go.Proofs.YtnncbmbepdkfnaaDoor

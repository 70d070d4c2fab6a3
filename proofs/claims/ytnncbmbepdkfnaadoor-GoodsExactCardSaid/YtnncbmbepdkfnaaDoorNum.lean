/- blame.Has and blame.Number by contracts, where all sentinels are known. -/
import Derived.Test.YtnncbmbepdkfnaaDoorErr
namespace Go.Proofs.YtnncbmbepdkfnaaDoor
open Go.RowKit

set_option maxHeartbeats 1000000 in
theorem has_calls {B : Nat} {w : World} {ad : Nat → Addr} (hs : Sents All18 B w ad) (n : Nat) (h1 : 1 ≤ n) (h2 : n ≤ 18) {v : Value} {k : Nat} {T : List Nat} (hv : IsErr w ad v k T) (hk : k ≤ 18) :
    Calls Tryd.prog 36 #[v, .int .i64 n] w fun e w' => e = .returned (.bool (decide (k = n))) ∧ w = w' := by
  have Ho := hide (of_calls hs n h1 h2)
  have Hi := hide (is_any hs (mem_all18 h1 h2) h1 (by
    rcases Nat.eq_zero_or_pos k with h | h
    · exact .inl h
    · exact .inr (mem_all18 h hk)) hv)
  have n0 := eql_nil_false
  have n1 : ∀ (t : TypeId) (x : Value) (W : World), (binOp .neq 26 (.iface t x) .nilIface).run Tryd.prog W = .ok (.bool true) W := fun t x W => run_neq_held_nil W 26 t x (by kernel_rfl)
  clear hs hv
  go_enter Tryd.func36, Tryd.ntmps36
  go_wp2_with fail
  refine Ho.out.mono ?_
  rintro e w' ⟨rfl, rfl⟩
  go_wp2_with fail
  refine Hi.out.mono ?_
  rintro e w' ⟨rfl, rfl⟩
  go_wp2_with fail
  go_ret
  exact ⟨rfl, rfl⟩

set_option maxHeartbeats 1000000 in
theorem number_calls {B : Nat} {w : World} {ad : Nat → Addr} (hs : Sents All18 B w ad) {v : Value} {k : Nat} {T : List Nat} (hv : IsErr w ad v k T) (hk : k ≤ 18) :
    Calls Tryd.prog 23 #[v] w fun e w' => e = .returned (.int .i64 k) ∧ w = w' := by
  have n0 := eql_nil_false
  have Hh : Hid (∀ n : Nat, 1 ≤ n → n ≤ 18 → Calls Tryd.prog 36 #[v, .int .i64 n] w fun e w' => e = .returned (.bool (decide (k = n))) ∧ w = w') := hide fun n h1 h2 => has_calls hs n h1 h2 hv hk
  rcases hv with ⟨rfl, rfl, _⟩ | ⟨h1, hc⟩
  · clear hs
    go_enter Tryd.func23, Tryd.ntmps23
    go_wp2_with fail
    go_ret
    exact ⟨rfl, rfl⟩
  · obtain ⟨t, a, rfl⟩ := hc.form
    clear hs hc
    go_enter Tryd.func23, Tryd.ntmps23
    go_wp2_with fail
    go_loopw [6] (fun s wr => w = wr ∧ ∃ n : Nat, n < k ∧ s = .int .i64 n) (fun s _ => 18 - (intOf s).toNat)
    case atStart => exact ⟨rfl, 0, by omega, rfl⟩
    case round =>
      obtain ⟨rfl, n, hn, rfl⟩ := hrel
      have hn18 : n < 18 := by omega
      have Hq := Hh.out (n + 1) (by omega) (by omega)
      have Hr := hide Hq
      clear Hq
      by_cases hd : k = n + 1
      · have hb : decide (k = n + 1) = true := by simpa using hd
        have Hb := hide hb
        clear hb hd
        go_wp2_with fail
        refine Hr.out.mono ?_
        rw [Hb.out]
        rintro e w' ⟨rfl, rfl⟩
        go_wp2_with fail
        go_ret
        exact ⟨ret_eq (int_eq (by have := Hb.out; simp at this; omega)), rfl⟩
      · have hb : decide (k = n + 1) = false := by simpa using hd
        have Hb := hide hb
        have hlt : n + 1 < k := by omega
        clear hb hd
        go_wp2_with fail
        refine Hr.out.mono ?_
        rw [Hb.out]
        rintro e w' ⟨rfl, rfl⟩
        go_wp2_with fail
        go_roundw
        case rel => exact ⟨trivial, n + 1, hlt, by go_num⟩
        case measure => simp [intOf]; omega
end Go.Proofs.YtnncbmbepdkfnaaDoor

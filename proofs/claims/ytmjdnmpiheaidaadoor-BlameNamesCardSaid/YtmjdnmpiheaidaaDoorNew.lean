/- errors.New, and what errors.Is, blame.Has, blame.Number say of an error that is none of api's. -/
import Derived.Test.YtmjdnmpiheaidaaDoorTree3
namespace Go.Proofs.YtmjdnmpiheaidaaDoor
open Go.RowKit Go.Extern.Stop Go.Stop Go.Extern
theorem new_calls {w : World} (s : ByteArray) : Calls Tryd.prog 21 #[.string s] w fun e w' => e = .returned (sv ⟨w.heap.size, 0, none⟩) ∧ w.alloc (.cells #[.string s] 77) = w' := by
  go_enter Tryd.func21, Tryd.ntmps21
  go_wp2_with fail
  go_ret
  exact ⟨rfl, rfl⟩
section
variable {B : Nat} {w : World} {ad : Nat → Addr} {a : Addr} {cs : Array Value} {t : TypeId}
set_option maxHeartbeats 1000000 in
theorem is_new (hs : Sents All18 B w ad) (ha : w.heap[a.block]? = some (.cells cs t (0, 0))) (hB : B ≤ a.block) {j : Nat} (hj : j ∈ All18) :
    Calls Tryd.prog 33 #[sv a, sv (ad j), .bool true] w fun e w' => e = .returned (.bool false) ∧ w = w' := by
  have nE := noIsE
  have uE := noUnwrapE
  have vE := noUnwrapsE
  obtain ⟨c2, t2, e2⟩ := hs.blk j hj
  have he : (binOp .eql 26 (sv a) (sv (ad j))).run Tryd.prog w = .ok (.bool false) w := eq_other w (fun e => by have := hs.lt j hj; rw [← e] at this; omega) ha e2
  clear hs ha e2
  go_enter Tryd.func33, Tryd.ntmps33
  go_wp2_with fail
  go_loopw [0] (fun s0 wr => w = wr ∧ s0 = sv a) (fun _ _ => 0)
  case atStart => exact ⟨rfl, rfl⟩
  case round =>
    obtain ⟨rfl, rfl⟩ := hrel
    go_wp2_with fail
    go_ret
    exact ⟨rfl, rfl⟩
set_option maxHeartbeats 1000000 in
theorem Is_new (hs : Sents All18 B w ad) (ha : w.heap[a.block]? = some (.cells cs t (0, 0))) (hB : B ≤ a.block) {j : Nat} (hj : j ∈ All18) :
    Calls Tryd.prog 20 #[sv a, sv (ad j)] w fun e w' => e = .returned (.bool false) ∧ w = w' := by
  have h8 := @run_callFunc_extern Tryd.prog 32 _ Extern.ReflectliteType.typeOf Tryd.func32 (by kernel_rfl) (by kernel_rfl) (by kernel_rfl) (by kernel_rfl)
  have h32 := @run_callFunc_extern Tryd.prog 73 _ cmpRow Tryd.func73 (by kernel_rfl) (by kernel_rfl) (by kernel_rfl) (by kernel_rfl)
  have tT := isTypeOf
  have cT := isComparable
  have mR := isMethodComparable
  have n0 := eql_nil_false
  have Hl := hide (is_new hs ha hB hj)
  clear hs ha
  go_enter Tryd.func20, Tryd.ntmps20
  go_wp2_with fail
  refine Hl.out.mono ?_
  rintro e w' ⟨rfl, rfl⟩
  go_wp2_with fail
  go_ret
  exact ⟨rfl, rfl⟩
set_option maxHeartbeats 1000000 in
theorem has_new (hs : Sents All18 B w ad) (ha : w.heap[a.block]? = some (.cells cs t (0, 0))) (hB : B ≤ a.block) (n : Nat) (h1 : 1 ≤ n) (h2 : n ≤ 18) :
    Calls Tryd.prog 16 #[sv a, .int .i64 n] w fun e w' => e = .returned (.bool false) ∧ w = w' := by
  have Ho := hide (of_calls hs n h1 h2)
  have Hi := hide (Is_new hs ha hB (mem_all18 h1 h2))
  have n1 : ∀ (t : TypeId) (x : Value) (W : World), (binOp .neq 26 (.iface t x) .nilIface).run Tryd.prog W = .ok (.bool true) W := fun t x W => run_neq_held_nil W 26 t x (by kernel_rfl)
  clear hs ha
  go_enter Tryd.func16, Tryd.ntmps16
  go_wp2_with fail
  refine Ho.out.mono ?_
  rintro e w' ⟨rfl, rfl⟩
  go_wp2_with fail
  refine Hi.out.mono ?_
  rintro e w' ⟨rfl, rfl⟩
  go_wp2_with fail
  go_ret
  exact ⟨rfl, rfl⟩
set_option maxHeartbeats 1000000 in
theorem number_new (hs : Sents All18 B w ad) (ha : w.heap[a.block]? = some (.cells cs t (0, 0))) (hB : B ≤ a.block) :
    Calls Tryd.prog 12 #[sv a] w fun e w' => e = .returned (.int .i64 (-1)) ∧ w = w' := by
  have n0 := eql_nil_false
  have Hh : Hid (∀ n : Nat, 1 ≤ n → n ≤ 18 → Calls Tryd.prog 16 #[sv a, .int .i64 n] w fun e w' => e = .returned (.bool false) ∧ w = w') := hide fun n h1 h2 => has_new hs ha hB n h1 h2
  clear hs ha
  go_enter Tryd.func12, Tryd.ntmps12
  go_wp2_with fail
  go_loopw [6] (fun s wr => w = wr ∧ ∃ n : Nat, n ≤ 18 ∧ s = .int .i64 n) (fun s _ => 18 - (intOf s).toNat)
  case atStart => exact ⟨rfl, 0, by omega, rfl⟩
  case round =>
    obtain ⟨rfl, n, hn, rfl⟩ := hrel
    by_cases hlt : n < 18
    · have Hr := hide (Hh.out (n + 1) (by omega) (by omega))
      go_wp2_with fail
      refine Hr.out.mono ?_
      rintro e w' ⟨rfl, rfl⟩
      go_wp2_with fail
      go_roundw
      case rel => exact ⟨trivial, n + 1, by omega, by go_num⟩
      case measure => simp [intOf]; omega
    · obtain rfl : n = 18 := by omega
      go_wp2_with fail
      go_ret
      exact ⟨rfl, rfl⟩
end
end Go.Proofs.YtmjdnmpiheaidaaDoor

/- awake of the statements of layer 10, by contract. -/
import Derived.Test.YtpipgkglacmoeaaDoorBadge7
namespace Go.Proofs.YtpipgkglacmoeaaDoor
open Go.RowKit

section
variable {K : List Nat} {ad : Nat → Addr} {w0 w w' : World} {g : Nat} {ps ps' : List (Int × Ent)} {ds ds' : List Int} {nx nx' : Int} {L : Loc}
theorem CB.glob (C : CB K ad w0 w g ps ds nx L) {k : Nat} (hk : k ∈ K) : w.cell? ⟨gOf k, 0, none⟩ = some (sv (ad k)) := C.sents.cell k hk
theorem aw_keep (C : CB K ad w0 w g ps ds nx L) (h1 : 1 ∈ K) (h9 : 9 ∈ K) (b : Nat) (hm : (b, 27, #[Value.int .i64 1, Value.int .i64 0]) ∈ L) :
    w.cell? ⟨b, 0, none⟩ = some (.int .i64 1) ∧ w.cell? ⟨b, 1, none⟩ = some (.int .i64 0) ∧ w.cell? ⟨0, 0, none⟩ = some (sv (ad 9)) ∧ w.cell? ⟨1, 0, none⟩ = some (sv (ad 1)) :=
  ⟨(C.blk hm).at_ 0 rfl, (C.blk hm).at_ 1 rfl, C.glob h9, C.glob h1⟩
end
theorem eql_ent (a b : Ent) (w : World) : (binOp .eql 27 (encE a) (encE b)).run Tryd.prog w = .ok (.bool (decide (a = b))) w := by
  obtain ⟨a1, a2⟩ := a
  obtain ⟨b1, b2⟩ := b
  by_cases h1 : a1 = b1 <;> by_cases h2 : a2 = b2 <;> simp [go_sem, encE, h1, h2]
theorem neq_ent (a b : Ent) (w : World) : (binOp .neq 27 (encE a) (encE b)).run Tryd.prog w = .ok (.bool (!decide (a = b))) w := by
  obtain ⟨a1, a2⟩ := a
  obtain ⟨b1, b2⟩ := b
  by_cases h1 : a1 = b1 <;> by_cases h2 : a2 = b2 <;> simp [go_sem, encE, h1, h2]
set_option maxRecDepth 100000 in
set_option maxHeartbeats 16000000 in
theorem awake_calls {K : List Nat} {ad : Nat → Addr} {w0 w : World} {L : Loc} (C0 : Cx K w0.heap.size ad w0 w [] L) (h1 : 1 ∈ K) (h6 : 6 ∈ K) (h7 : 7 ∈ K) (h9 : 9 ∈ K) :
    Calls Tryd.prog 7 #[] w fun e w' => e = .returned (.bool true) ∧ Fr [] w w' := by
  have C0 := Cx.start (w0 := w) (ad := ad) (K := K) ⟨Nat.le_refl _, fun k hk => Nat.lt_of_lt_of_le (C0.sents.glob k hk) C0.leW, C0.sents.cell, fun k hk => Nat.lt_of_lt_of_le (C0.sents.lt k hk) C0.leW, C0.sents.blk, C0.sents.inj⟩
  have H0 := hide C0
  clear C0
  go_enter Tryd.func7, Tryd.ntmps7
  go_wp2_with fail
  refine (CB.new H0.out).mono ?_
  rintro e w1 ⟨g, rfl, hc⟩
  have C1 := hide hc
  clear hc
  go_wp2_with fail
  refine (C1.out.give (e := (1, 0)) (by simp) rfl (by omega)).mono ?_
  rintro e w2 ⟨rfl, hc⟩
  have C2 : Hid (CB K ad w w2 g [(1, (1, 0))] [1] 2 []) := hide hc
  clear hc C1
  go_wp2_with fail
  refine (C2.out.give (e := (2, 0)) (by simp) (by decide) (by omega)).mono ?_
  rintro e w3 ⟨rfl, hc⟩
  have C3 : Hid (CB K ad w w3 g [(1, (1, 0)), (2, (2, 0))] [1, 2] 3 []) := hide hc
  clear hc C2
  go_wp2_with fail
  refine (C3.out.give_err h9 h6 (e := (2, 0)) (k := 9) (.inl ⟨by decide, rfl⟩)).mono ?_
  rintro e w4 ⟨b1, s1, rfl, hc⟩
  have C4 := hide hc
  clear hc C3
  simp only [blm]
  go_wp2_with fail
  refine (C4.out.drop (id := 1) (e := (1, 0)) (by simp) (by decide)).mono ?_
  rintro e w5 ⟨rfl, hc⟩
  have C5 : Hid (CB K ad w (w5.alloc (.cells #[.int .i64 1, .int .i64 0] 27)) g [(2, (2, 0))] [2] 3 ((w5.heap.size, 27, #[.int .i64 1, .int .i64 0]) :: [(b1, 96, #[.string s1, sv (ad 9)])])) := hide (CB.alloc (show CB K ad w w5 g [(2, (2, 0))] [2] 3 _ from hc) _ _)
  clear hc C4
  simp only [encE]
  go_wp2_with fail
  refine (C5.out.pin (id := 1) (e := (3, 0)) (by simp) (by omega) (by omega) (by decide) (by decide)).mono ?_
  rintro e w6 ⟨rfl, hc⟩
  have C6 : Hid (CB K ad w w6 g [(2, (2, 0)), (1, (3, 0))] [1, 2] 3 ((w5.heap.size, 27, #[.int .i64 1, .int .i64 0]) :: [(b1, 96, #[.string s1, sv (ad 9)])])) := hide hc
  clear hc C5
  go_wp2_with fail
  refine (C6.out.id (3, 0)).mono ?_
  rintro e w7 ⟨rfl, hc, -⟩
  have C7 := hide hc
  clear hc C6
  rw [show idOf [(2, (2, 0)), (1, (3, 0))] (3, 0) = some 1 from by decide, Option.getD_some, Option.isSome_some]
  go_wp2_with fail
  obtain ⟨a0, a1, g9, g1⟩ := aw_keep C7.out h1 h9 w5.heap.size (by simp)
  have q1 : ∀ W : World, (binOp .eql 27 (.agg #[.int .i64 1, .int .i64 0]) (.agg #[.int .i64 1, .int .i64 0])).run Tryd.prog W = .ok (.bool true) W := fun W => by
    have := eql_ent (1, 0) (1, 0) W
    simpa [encE] using this
  go_region_held3 (fun w' => w'.cell? ⟨w5.heap.size, 0, none⟩ = some (.int .i64 1) ∧ w'.cell? ⟨w5.heap.size, 1, none⟩ = some (.int .i64 0) ∧ w'.cell? ⟨0, 0, none⟩ = some (sv (ad 9)) ∧ w'.cell? ⟨1, 0, none⟩ = some (sv (ad 1)))
    (first | exact aw_keep Cf.out h1 h9 w5.heap.size (by simp) | exact aw_keep C9.out h1 h9 w5.heap.size (by simp) | exact aw_keep (C9.out.alloc 3 #[.int .i64 1, .int .i64 2]) h1 h9 w5.heap.size (by simp) | exact aw_keep C8.out h1 h9 w5.heap.size (by simp) | exact aw_keep (C8.out.alloc 3 #[.int .i64 1, .int .i64 2]) h1 h9 w5.heap.size (by simp) | exact aw_keep C7.out.drew h1 h9 w5.heap.size (by simp) | go_keep)
    (first
      | (go_at_call 18; have _ := C8; ((with_reducible refine (is_chain C8.out.sents h1 h1 (chain_of (b := b2) (s := s2) (C8.out.blk (by simp)))).mono ?_)); rintro e w' ⟨rfl, rfl⟩)
      | (go_at_call 18; ((with_reducible refine (is_chain C7.out.drew.sents h9 h9 (chain_of (b := b1) (s := s1) (C7.out.drew.blk (by simp)))).mono ?_)); rintro e w' ⟨rfl, rfl⟩)
      | (go_at_call 17; ((with_reducible refine (C7.out.drew.next).mono ?_)); rintro e w' ⟨rfl, rfl⟩)
      | (go_at_call 14; ((with_reducible refine (C7.out.drew.len).mono ?_)); rintro e w' ⟨rfl, rfl⟩)
      | (go_at_call 10; refine (C7.out.drew.pin_err h9 h1 (id := 3) (e := (0, 0)) (k := 1) (.inl ⟨by omega, rfl⟩)).mono ?_; rintro e w8 ⟨b2, s2, he, hc⟩; obtain rfl : e = .returned (.iface 94 (.pointer (some ⟨b2, 0, none⟩))) := he; have C8 := hide hc; clear hc)
      | (go_at_call 13; ((with_reducible refine ((C8.out.alloc 3 #[.int .i64 1, .int .i64 2]).list (by simp)).mono ?_)); rintro e w9 ⟨v9, rfl, hr9, hc, -⟩; have C9 := hide hc; have R9 := hide hr9; have tokA : True := trivial; clear hc hr9)
      | (go_at_call 13; ((with_reducible refine (C8.out.list (by simp)).mono ?_)); rintro e w9 ⟨v9, rfl, hr9, hc, -⟩; have C9 := hide hc; have R9 := hide hr9; clear hc hr9)
      | (go_at_call 27; have tk := tokA; ((with_reducible refine (same_calls (xs := [1, 2]) (ys := [1, 2]) R9.out (row_mk (base := 0) (n := 2) (cap := 2) (size := 1) (xs := ints [1, 2]) (C9.out.blk (b := w8.heap.size) (t := 3) (cs := #[.int .i64 1, .int .i64 2]) (by simp)) (Nat.zero_le _) (Nat.le_refl _) (by unfold maxLen; omega) rfl rfl) (by simp) (by simp)).mono ?_)); rintro e wf ⟨rfl, hff⟩; have Cf := hide (C9.out.fr0 hff); clear hff)
      | (go_at_call 27; refine (same_calls (xs := [1, 2]) (ys := [1, 2]) (R9.out.alloc (.cells #[.int .i64 1, .int .i64 2] 3)) (row_mk (base := 0) (n := 2) (cap := 2) (size := 1) (xs := ints [1, 2]) (Blk.new w9 3 #[.int .i64 1, .int .i64 2]) (Nat.zero_le _) (Nat.le_refl _) (by unfold maxLen; omega) rfl rfl) (by simp) (by simp)).mono ?_; rintro e wf ⟨rfl, hff⟩; have Cf := hide ((C9.out.alloc 3 #[.int .i64 1, .int .i64 2]).fr0 hff); clear hff))
  all_goals
    go_wp2
    go_ret
    exact ⟨rfl, Cf.out.fr⟩
end Go.Proofs.YtpipgkglacmoeaaDoor

/- Equality of parts. -/
import Derived.DeepKeys
import Derived.Laws.StructEq
import Derived.Test.YtioeafjlbdpjoaaDoorRest
namespace Go.Proofs.YtioeafjlbdpjoaaDoor
open Go.RowKit

structure Pt where
  c : Int
  v0 : Int
  v1 : Int
  v2 : Int
  v3 : Int
  t : Int
  deriving DecidableEq
def boxP (p : Pt) : Array Value := #[.int .i64 p.c, .int .i64 p.v0, .int .i64 p.v1, .int .i64 p.v2, .int .i64 p.v3, .int .i64 p.t]
abbrev encP (p : Pt) : Value := .agg (boxP p)
theorem sizeInt : (Tryd.prog.info? 3).map (·.size) = some 1 := by kernel_rfl
theorem prt0 (p : Pt) (W : World) : (part 3 (boxP p) 0).run Tryd.prog W = .ok (.int .i64 p.c) W := by kernel_rfl
theorem prt1 (p : Pt) (W : World) : (part 32 (boxP p) 1).run Tryd.prog W = .ok (.agg #[.int .i64 p.v0, .int .i64 p.v1, .int .i64 p.v2, .int .i64 p.v3]) W := by kernel_rfl
theorem prt5 (p : Pt) (W : World) : (part 3 (boxP p) 5).run Tryd.prog W = .ok (.int .i64 p.t) W := by kernel_rfl
theorem prv0 (a b c d : Int) (W : World) : (part 3 #[.int .i64 a, .int .i64 b, .int .i64 c, .int .i64 d] (0 * 1)).run Tryd.prog W = .ok (.int .i64 a) W := by kernel_rfl
theorem prv1 (a b c d : Int) (W : World) : (part 3 #[.int .i64 a, .int .i64 b, .int .i64 c, .int .i64 d] (1 * 1)).run Tryd.prog W = .ok (.int .i64 b) W := by kernel_rfl
theorem prv2 (a b c d : Int) (W : World) : (part 3 #[.int .i64 a, .int .i64 b, .int .i64 c, .int .i64 d] (2 * 1)).run Tryd.prog W = .ok (.int .i64 c) W := by kernel_rfl
theorem prv3 (a b c d : Int) (W : World) : (part 3 #[.int .i64 a, .int .i64 b, .int .i64 c, .int .i64 d] (3 * 1)).run Tryd.prog W = .ok (.int .i64 d) W := by kernel_rfl
theorem eqItems_cons {P : Program} {d : Nat} {e : TypeId} {c : Nat} {xs ys : Array Value} {i : Nat} {l : List Nat} {a b : Value} {r r' : Bool} {W : World} (h1 : (part e xs (i * c)).run P W = .ok a W) (h2 : (part e ys (i * c)).run P W = .ok b W)
    (h3 : (Op.equalIn d e a b).run P W = .ok r W) (h4 : (Op.eqItems d e c xs ys l).run P W = .ok r' W) : (Op.eqItems d e c xs ys (i :: l)).run P W = .ok (r && r') W := by
  simp only [Op.eqItems, Sem.run_bind, h1, h2, h3, Result.andThen_ok]
  cases r
  · simp
  · simpa using h4
theorem eqFields_cons {P : Program} {d : Nat} {f : Field} {xs ys : Array Value} {l : List Field} {a b : Value} {r r' : Bool} {W : World} (hn : f.name ≠ "_") (h1 : (part f.type xs f.offset).run P W = .ok a W) (h2 : (part f.type ys f.offset).run P W = .ok b W)
    (h3 : (Op.equalIn d f.type a b).run P W = .ok r W) (h4 : (Op.eqFields d xs ys l).run P W = .ok r' W) : (Op.eqFields d xs ys (f :: l)).run P W = .ok (r && r') W := by
  simp only [Op.eqFields, hn, ne_eq, not_false_eq_true, if_true, Sem.run_bind, h1, h2, h3, Result.andThen_ok]
  cases r
  · simp
  · simpa using h4
theorem uArr : Tryd.prog.underlying 32 = some (.array 4 3) := by kernel_rfl
theorem fPart : (Tryd.prog.fieldsOf 34).toList.map (fun f => (f.name, f.type, f.offset)) = [("Comp", 3, 0), ("Values", 32, 1), ("Tick", 3, 5)] := by kernel_rfl
theorem hPart : Tryd.prog.underlying 34 = some (.struct (Tryd.prog.fieldsOf 34)) := by kernel_rfl
theorem sPart : Tryd.prog.stoodInHeld 34 = false := by kernel_rfl
theorem uIntE : Tryd.prog.underlying 3 = some (.int .i64) := by kernel_rfl

theorem eq_arr (d : Nat) (a b c e a' b' c' e' : Int) (W : World) : (Op.equalIn (d + 2) 32 (.agg #[.int .i64 a, .int .i64 b, .int .i64 c, .int .i64 e]) (.agg #[.int .i64 a', .int .i64 b', .int .i64 c', .int .i64 e'])).run Tryd.prog W
    = .ok (decide ((a = a' ∧ b = b') ∧ c = c' ∧ e = e')) W := by
  obtain ⟨i, hi, hs⟩ := Option.map_eq_some_iff.1 sizeInt
  have hc : Tryd.prog.cellsOf 3 = 1 := by kernel_rfl
  rw [run_equalIn_array W (d + 1) _ _ uArr hi, hc, show List.range 4 = [0, 1, 2, 3] from rfl]
  have q : ∀ (x y : Int) (W : World), (Op.equalIn (d + 1) 3 (.int .i64 x) (.int .i64 y)).run Tryd.prog W = .ok (x == y) W := fun x y W => run_equalIn_int W d 3 .i64 .i64 x y uIntE
  rw [eqItems_cons (prv0 a b c e W) (prv0 a' b' c' e' W) (q a a' W) (eqItems_cons (prv1 a b c e W) (prv1 a' b' c' e' W) (q b b' W) (eqItems_cons (prv2 a b c e W) (prv2 a' b' c' e' W) (q c c' W) (eqItems_cons (prv3 a b c e W) (prv3 a' b' c' e' W) (q e e' W) (r' := true) (by simp [Op.eqItems]))))]
  refine congrArg (fun r => Result.ok r W) ?_
  rw [Bool.eq_iff_iff]
  simp [and_assoc]

theorem eql_part (p q : Pt) (W : World) : (binOp .eql 34 (encP p) (encP q)).run Tryd.prog W = .ok (.bool (decide (p = q))) W ∧ (binOp .neq 34 (encP p) (encP q)).run Tryd.prog W = .ok (.bool (!(decide (p = q)))) W := by
  have key : (Op.equalIn 10000 34 (encP p) (encP q)).run Tryd.prog W = .ok (decide (p = q)) W := by
    rw [show (10000 : Nat) = 9999 + 1 from rfl, run_equalIn_struct W 9999 34 _ _ hPart sPart]
    have hf := fPart
    generalize (Tryd.prog.fieldsOf 34).toList = fs at hf
    rcases fs with _ | ⟨f0, _ | ⟨f1, _ | ⟨f2, _ | ⟨f3, fs⟩⟩⟩⟩
    · simp at hf
    · simp at hf
    · simp at hf
    rotate_left
    · simp at hf
    · simp only [List.map_cons, List.map_nil, List.cons.injEq, Prod.mk.injEq, and_true] at hf
      obtain ⟨⟨n0, t0, o0⟩, ⟨n1, t1, o1⟩, n2, t2, o2⟩ := hf
      have x1 : ∀ (x y : Int) (W : World), (Op.equalIn 9999 3 (.int .i64 x) (.int .i64 y)).run Tryd.prog W = .ok (x == y) W := fun x y W => run_equalIn_int W 9998 3 .i64 .i64 x y uIntE
      have x2 := eq_arr 9997 p.v0 p.v1 p.v2 p.v3 q.v0 q.v1 q.v2 q.v3
      have hd : (p = q) ↔ (p.c = q.c ∧ ((p.v0 = q.v0 ∧ p.v1 = q.v1) ∧ p.v2 = q.v2 ∧ p.v3 = q.v3) ∧ p.t = q.t) := by
        cases p; cases q
        simp only [Pt.mk.injEq, and_assoc]
      rw [eqFields_cons (by rw [n0]; decide) (by rw [t0, o0]; exact prt0 p W) (by rw [t0, o0]; exact prt0 q W) (by rw [t0]; exact x1 _ _ W)
        (eqFields_cons (by rw [n1]; decide) (by rw [t1, o1]; exact prt1 p W) (by rw [t1, o1]; exact prt1 q W) (by rw [t1]; exact x2 W)
        (eqFields_cons (by rw [n2]; decide) (by rw [t2, o2]; exact prt5 p W) (by rw [t2, o2]; exact prt5 q W) (by rw [t2]; exact x1 _ _ W) (r' := true) (by simp [Op.eqFields])))]
      refine congrArg (fun r => Result.ok r W) ?_
      rw [Bool.eq_iff_iff, decide_eq_true_iff, hd]
      simp
  rw [show (binOp .eql 34 (encP p) (encP q)) = (binOp .eql 34 (.agg (boxP p)) (.agg (boxP q))) from rfl, show (binOp .neq 34 (encP p) (encP q)) = (binOp .neq 34 (.agg (boxP p)) (.agg (boxP q))) from rfl, run_eql_struct, run_neq_struct, key]
  exact ⟨rfl, rfl⟩
end Go.Proofs.YtioeafjlbdpjoaaDoor

/- Badges as an object: two maps, a row of numbers, the next one. -/
import Derived.Test.YtpipgkglacmoeaaDoorBadgeP
import Derived.Test.YtpipgkglacmoeaaDoorSlicesD
import Derived.Test.YtpipgkglacmoeaaDoorFrame
namespace Go.Proofs.YtpipgkglacmoeaaDoor
open Go.RowKit

set_option maxRecDepth 100000 in
theorem eq_ent (a b : Ent) (w : World) : (Op.equal 27 (encE a) (encE b)).run Tryd.prog w = .ok (decide (a = b)) w := by
  obtain ⟨a1, a2⟩ := a
  obtain ⟨b1, b2⟩ := b
  have hb : (binOp .eql 27 (encE (a1, a2)) (encE (b1, b2))).run Tryd.prog w = .ok (.bool (decide ((a1, a2) = (b1, b2)))) w := by
    by_cases h1 : a1 = b1 <;> by_cases h2 : a2 = b2 <;> simp [go_sem, encE, h1, h2]
  have hu : (binOp .eql 27 (encE (a1, a2)) (encE (b1, b2))).run Tryd.prog w = ((Op.equal 27 (encE (a1, a2)) (encE (b1, b2))).run Tryd.prog w).andThen fun r w' => .ok (.bool r) w' := by
    rw [binOp]
    · simp only [Sem.run_bind]
      rfl
    all_goals
      intros
      simp_all [encE]
  rw [hu] at hb
  cases hc : (Op.equal 27 (encE (a1, a2)) (encE (b1, b2))).run Tryd.prog w with
  | ok r w' =>
    rw [hc] at hb
    simp only [Result.andThen] at hb
    injection hb with e1 e2
    injection e1 with e1
    subst e1; subst e2
    rfl
  | halt h w' => rw [hc] at hb; cases hb
theorem check_ent (b : Bool) (k : Ent) (w : World) : (Instr.checkKey b 10000 27 (encE k)).run Tryd.prog w = .ok () w := by
  obtain ⟨k1, k2⟩ := k
  have hi := fun (v : Int) => Go.MapKept.run_checkKey (P := Tryd.prog) (w := w) (k := .int .i64 v) Tryd.underlying3 (by simp [Go.MapKept.IsKey]) b 9998
  unfold Instr.checkKey
  simp [run_underlying Tryd.underlying27, encE, go_sem, hi]
theorem key_ent : KeyLaw encE Tryd.prog 27 where
  check := check_ent
  find := fun k l es h w => (run_findKey_eq (P := Tryd.prog) (k := 27) w (by rw [Tryd.underlying27]) (encE k) es).trans (find_asking eq_ent k l es 0 h w)
theorem key_id : KeyLaw encId Tryd.prog 3 := key_int Tryd.underlying3
end Go.Proofs.YtpipgkglacmoeaaDoor

/- What the walks of the statements of layer 16 carry: sentinels and table; Check of the plain schema. -/
import Derived.Test.YthjakngpegdhmaaDoorAwake
import Derived.Test.YthjakngpegdhmaaDoorPlainS
namespace Go.Proofs.YthjakngpegdhmaaDoor
open Go.RowKit
structure Env (K : List Nat) (ad : Nat → Addr) (w : World) : Prop where
  sents : Sents K w.heap.size w ad
  k1 : 1 ∈ K
  k4 : 4 ∈ K
  k12 : 12 ∈ K
  k13 : 13 ∈ K
  k14 : 14 ∈ K
  tab : RowsT w
theorem RowsT.lt' {w : World} (h : RowsT w) : 1 < w.heap.size := h.elim fun t h => Blk.lt h
theorem Env.check {K : List Nat} {ad : Nat → Addr} {w w1 : World} (E : Env K ad w) (hf : Fr [] w w1) {B gc cc gr n c : Nat} {cs : List (UInt8 × Int × Bool)} (hrow : w1.ownsRow B 56 7 (.slice (some ⟨gc, 0, none⟩) 4 cc) 4 (cs.flatMap encC)) (hcs : cs.length = 4)
    {A : Option Addr} {L : List Ins} (hr : Reads w1 w1.heap.size 3 A n (L.flatMap encIns)) (hln : L.length = n) (hn : n ≤ 99) :
    Calls Tryd.prog 15 #[.agg #[.slice (some ⟨gc, 0, none⟩) 4 cc, .slice (some ⟨gr, 0, none⟩) 2 2], .slice A n c] w1 (ChkPost w1 ad (cs.map fun x => (x.2.1, x.2.2)) 2 L) :=
  check_calls (E.sents.fr0 hf) E.k1 E.k4 E.k12 E.k13 E.k14 (plain_sch hrow hcs.symm (row_lt hrow rfl).1) (E.tab.fr0 hf) (Nat.lt_of_lt_of_le E.tab.lt' hf.size) (by simp [hcs]) (by omega) hr hln hn
theorem Reads.up {w w' : World} {size n : Nat} {A : Option Addr} {xs : List Value} (h : Reads w w.heap.size size A n xs) (hf : Fr [] w w') : Reads w' w'.heap.size size A n xs := by
  obtain ⟨h1, h2⟩ := h.below (hf.below (by simp) (Nat.le_refl _))
  exact ⟨h1, fun hn => by
    obtain ⟨b, o, e, hb, hc⟩ := h2 hn
    exact ⟨b, o, e, Nat.lt_of_lt_of_le hb hf.size, hc⟩⟩
theorem Env.awake {K : List Nat} {ad : Nat → Addr} {w : World} (E : Env K ad w) : Calls Tryd.prog 8 #[] w fun e w' => e = .returned (.bool true) ∧ Fr [] w w' := awake_calls E.sents E.k1 E.k4 E.k12 E.k13 E.k14 E.tab E.tab.lt'
section
variable {K : List Nat} {ad : Nat → Addr} {w w1 : World} (E : Env K ad w) (hf : Fr [] w w1) {B gc cc gr n c : Nat} {cs : List (UInt8 × Int × Bool)} (hrow : w1.ownsRow B 56 7 (.slice (some ⟨gc, 0, none⟩) 4 cc) 4 (cs.flatMap encC)) (hcs : cs.length = 4)
    {A : Option Addr} {L : List Ins} (hr : Reads w1 w1.heap.size 3 A n (L.flatMap encIns)) (hln : L.length = n) (hn : n ≤ 99)
include E hf hrow hcs hr hln hn
theorem Env.check_ok (h : okC (cs.map fun x => (x.2.1, x.2.2)) 2 L) : Calls Tryd.prog 15 #[.agg #[.slice (some ⟨gc, 0, none⟩) 4 cc, .slice (some ⟨gr, 0, none⟩) 2 2], .slice A n c] w1 fun e w' => e = .returned .nilIface ∧ Fr [] w1 w' :=
  (E.check hf hrow hcs hr hln hn).mono fun e w' ⟨v, he, hf', h1, _, _⟩ => ⟨by rw [he, h1 h], hf'⟩
theorem Env.check_no (h : ¬ okC (cs.map fun x => (x.2.1, x.2.2)) 2 L) : Calls Tryd.prog 15 #[.agg #[.slice (some ⟨gc, 0, none⟩) 4 cc, .slice (some ⟨gr, 0, none⟩) 2 2], .slice A n c] w1 fun e w' => (∃ t a, e = .returned (.iface t (.pointer (some a)))) ∧ Fr [] w1 w' :=
  (E.check hf hrow hcs hr hln hn).mono fun e w' ⟨v, he, hf', _, h1, _⟩ => ⟨by obtain ⟨t, a, rfl⟩ := h1 h; exact ⟨t, a, he⟩, hf'⟩
end
theorem compL_cs : (compL.map fun x => (x.2.1, x.2.2)) = csP := rfl
end Go.Proofs.YthjakngpegdhmaaDoor

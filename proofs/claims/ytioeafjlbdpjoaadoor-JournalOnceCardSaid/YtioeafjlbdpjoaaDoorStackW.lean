/- The journal beside the row of where each frame begins (JournalStacks, JournalForgets). -/
import Derived.Test.YtioeafjlbdpjoaaDoorPlainSt
import Derived.Test.YtioeafjlbdpjoaaDoorInts
import Derived.Test.YtioeafjlbdpjoaaDoorRest
import Derived.Test.YtioeafjlbdpjoaaDoorBackF
namespace Go.Proofs.YtioeafjlbdpjoaaDoor
open Go.RowKit
theorem row_baseJ {w : World} {B B' : Nat} {t : TypeId} {size n : Nat} {v : Value} {xs : List Value} (h : w.ownsRow B t size v n xs) (hb : B' ≤ B) : w.ownsRow B' t size v n xs := by
  refine ⟨h.1, ?_⟩
  rcases h.2 with h0 | ⟨g, cap, cur, h1, h2, h3⟩
  · exact .inl h0
  · exact .inr ⟨g, cap, cur, h1, Nat.le_trans hb h2, h3⟩
theorem JR.up {B B' : Nat} {w : World} {g : Nat} {sts : List St} {most size : Int} {S : List Nat} (h : JR B w g sts most size S) (hb : B' ≤ B) : JR B' w g sts most size S := by
  obtain ⟨sl, rs, Q, h1, h2, h3, h4, h5, h6, h7, h8⟩ := h
  refine ⟨sl, rs, Q, h1, h2, h3.up hb, fun x hx => ?_, Nat.le_trans hb h5, h6, fun b hm => ⟨(h7 b hm).1, Nat.le_trans hb (h7 b hm).2.1, (h7 b hm).2.2⟩, h8⟩
  obtain ⟨uv, m, ds, k1, k2, k3, k4, k5, k6, k7, k8⟩ := h4 x hx
  exact ⟨uv, m, ds, k1, row_baseJ k2 hb, k3, k4, k5, Nat.le_trans hb k6, Nat.le_trans hb k7, k8⟩
def bsC (cs : List Nat) (i : Nat) : List Int := (List.range i).map fun j => ((baseC cs j : Nat) : Int)
theorem bsC_len (cs : List Nat) (i : Nat) : (bsC cs i).length = i := by simp [bsC]
theorem bsC_succ (cs : List Nat) (i : Nat) : bsC cs (i + 1) = bsC cs i ++ [((baseC cs i : Nat) : Int)] := by
  unfold bsC
  rw [List.range_succ, List.map_append]
  rfl
theorem bsC_get (cs : List Nat) {i k : Nat} (h : k < i) : (bsC cs i)[k]? = some ((baseC cs k : Nat) : Int) := by
  unfold bsC
  rw [List.getElem?_map, List.getElem?_range h]
  rfl
structure SW (w : World) (g : Nat) (cs : List Nat) (m : Nat) (v : Value) (sts : List St) (size : Int) (S : List Nat) (wr : World) : Prop where
  jr : JR w.heap.size wr g sts 1024 size S
  row : wr.ownsRow w.heap.size 3 1 v m (ints (bsC cs m))
  dis : ∀ b, v.ownBlock = some b → b ∉ S
  fr : Fr [] w wr
section
variable {w wr w' w3 X : World} {g m gg cap : Nat} {cs : List Nat} {v : Value} {sts sts' : List St} {size size' : Int} {S S' : List Nat}
theorem SW.stp (h : SW w g cs m v sts size S wr) (hj : JR w.heap.size w' g sts' 1024 size' S') (hst : Stp S S' wr w') : SW w g cs m v sts' size' S' w' :=
  ⟨hj, row_fr h.row hst.1 h.dis, fun _ hb => hst.out (row_lt h.row hb).1 (h.dis _ hb), h.fr.step hst.1 fun x hx => .inr (h.jr.ge x hx).1⟩
theorem SW.fr0 (h : SW w g cs m v sts size S wr) (hf : Fr [] wr w') : SW w g cs m v sts size S w' := ⟨h.jr.fr0 hf, row_fr h.row hf (by simp), h.dis, h.fr.trans hf⟩
theorem SW.app (h : SW w g cs m v sts size S wr) (hX : Fr [] wr X) (hown : w3.ownsRow w.heap.size 3 1 (.slice (some ⟨gg, 0, none⟩) (m + 1) cap) (m + 1) (ints (bsC cs m) ++ [.int .i64 ((baseC cs m : Nat) : Int)]))
    (hgrow : X.grownBy w3 v.ownBlock) (hat : v.ownBlock = some gg ∨ wr.heap.size ≤ gg) : SW w g cs (m + 1) (.slice (some ⟨gg, 0, none⟩) (m + 1) cap) sts size S w3 := by
  have hf3 : Fr v.ownBlock.toList wr w3 := (hX.any _).grown hgrow fun k hk => .inl (by simp [hk])
  refine ⟨h.jr.fr hf3 fun b hb hm => h.dis b (by simpa using hm) hb, ?_, ?_, h.fr.step hf3 fun x hx => .inr (row_lt h.row (by simpa using hx)).2⟩
  · rw [bsC_succ]
    simpa [ints] using hown
  · intro b hb hm
    obtain rfl : gg = b := by simpa [Value.ownBlock] using hb
    exact hat.elim (fun e => h.dis gg e hm) fun e => by have := (h.jr.ge gg hm).2; omega
end
end Go.Proofs.YtioeafjlbdpjoaaDoor

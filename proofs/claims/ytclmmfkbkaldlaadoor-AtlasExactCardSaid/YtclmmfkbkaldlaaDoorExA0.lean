/- AtlasExact: the switch of a round, taken out of the law's text; what holds at the loop's head. -/
import Derived.Test.YtclmmfkbkaldlaaDoorExactA
namespace Go.Proofs.YtclmmfkbkaldlaaDoor
open Go.RowKit

/-- the block of a number -/
def blkOf (n : Nat) : Code → Option Code
  | .block m c => if m = n then some (.block m c) else blkOf n c
  | .seq a b => match blkOf n a with
    | some c => some c
    | none => blkOf n b
  | .loop c => blkOf n c
  | .scope c => blkOf n c
  | .cond _ a b => match blkOf n a with
    | some c => some c
    | none => blkOf n b
  | _ => none
noncomputable def sw : Code := ((Tryd.f7.body.bind (blkOf 2)).getD .skip)
/-- what holds at the loop's head -/
def XI (K : List Nat) (w : World) (ad : Nat → Addr) (g g2 cn : Nat) (i : Nat) (wr : World) : Prop := ∃ ms S1 S2, ms.length ≤ 1 + 40 * i ∧ EI K w ad g g2 cn ms ms S1 S2 [] wr
theorem EI.act {K : List Nat} {w wr : World} {ad : Nat → Addr} {g g2 cn : Nat} {ms1 ms2 S1 S2 : List Nat} {L : List (Nat × TypeId × Array Value)} (h : EI K w ad g g2 cn ms1 ms2 S1 S2 L wr) {b : Nat} {x0 x1 x2 x3 x4 : Value} (hm : (b, 51, #[x0, x1, x2, x3, x4]) ∈ L) :
    wr.cell? ⟨b, 0, none⟩ = some x0 ∧ wr.cell? ⟨b, 1, none⟩ = some x1 ∧ wr.cell? ⟨b, 2, none⟩ = some x2 ∧ wr.cell? ⟨b, 3, none⟩ = some x3 ∧ wr.cell? ⟨b, 4, none⟩ = some x4 ∧ b < wr.heap.size := by
  have hb := h.cx.blk hm
  exact ⟨hb.at_ 0 rfl, hb.at_ 1 rfl, hb.at_ 2 rfl, hb.at_ 3 rfl, hb.at_ 4 rfl, hb.lt⟩
theorem tgt_len (ms : List Nat) (m i : Nat) (h : ms.length ≤ 1 + 40 * i) : (addm ms m).length ≤ 1 + 40 * (i + 1) := by have := addm_len ms m; omega
theorem nil_row (w : World) (B : Nat) : w.ownsRow B 3 1 (.slice none 0 0) ([] : List Int).length (ints []) := World.ownsRow_nil _ _ _ _
end Go.Proofs.YtclmmfkbkaldlaaDoor

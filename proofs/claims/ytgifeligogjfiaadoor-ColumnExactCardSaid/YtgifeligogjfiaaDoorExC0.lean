/- ColumnExact: the walk of the law. -/
import Derived.Test.YtgifeligogjfiaaDoorExactC
import Derived.Test.YtgifeligogjfiaaDoorSame
import Derived.Test.YtgifeligogjfiaaDoorPartEq
import Derived.Test.YtgifeligogjfiaaDoorAwake
import Derived.Deep.DeepCutAuto
import Derived.Deep.CutBlock
namespace Go.Proofs.YtgifeligogjfiaaDoor
open Go.RowKit

/-- an error that came back, told by its number -/
def ErrIn (ad : Nat → Addr) (L : List (Nat × TypeId × Array Value)) (v : Value) (j : Nat) : Prop :=
  (v = .nilIface ∧ j = 0) ∨ ∃ (b : Nat) (s : ByteArray), v = .iface 79 (.pointer (some ⟨b, 0, none⟩)) ∧ 1 ≤ j ∧ (b, 81, #[.string s, sv (ad j)]) ∈ L
theorem CI.isErr {K : List Nat} {w : World} {ad : Nat → Addr} {g g2 : Nat} {comp : Int} {k : Nat} {S1 S2 : List Nat} {L : List (Nat × TypeId × Array Value)} {ps1 ps2 : List Pt} {wr : World}
    (h : CI K w ad g g2 comp k S1 S2 L ps1 ps2 wr) {v : Value} {j : Nat} (he : ErrIn ad L v j) : ∃ T, IsErr wr ad v j T := by
  rcases he with ⟨rfl, rfl⟩ | ⟨b, s, rfl, hj, hm⟩
  · exact ⟨[], .inl ⟨rfl, rfl, rfl⟩⟩
  · exact ⟨_, .inr ⟨hj, chain_of (b := b) (s := s) (h.cx.blk hm)⟩⟩

/-- what holds at the loop's head -/
def XI (K : List Nat) (w : World) (ad : Nat → Addr) (g g2 : Nat) (comp : Int) (k : Nat) (m : Nat) (wr : World) : Prop :=
  ∃ (ps : List Pt) (S1 S2 : List Nat), ps.length ≤ m ∧ (∀ p ∈ ps, Fits comp k p) ∧ CI K w ad g g2 comp k S1 S2 [] ps ps wr
/-- what holds behind the two calls of a round -/
def YI (K : List Nat) (w : World) (ad : Nat → Addr) (g g2 : Nat) (comp : Int) (k : Nat) (m : Nat) (b11 b12 b13 : Nat) (act : Array Value) (v14 v15 : Value) (wr : World) : Prop :=
  ∃ (ps : List Pt) (S1 S2 : List Nat) (j : Nat) (p : Pt) (L : List (Nat × TypeId × Array Value)), ps.length ≤ m ∧ (∀ p ∈ ps, Fits comp k p) ∧ j ≤ 18 ∧ v15 = .int .i64 j ∧ ErrIn ad L v14 j ∧
    (b13, 35, boxP p) ∈ L ∧ (b12, 35, boxP p) ∈ L ∧ (b11, 52, act) ∈ L ∧ CI K w ad g g2 comp k S1 S2 L ps ps wr

section
variable {K : List Nat} {w : World} {ad : Nat → Addr} {g g2 : Nat} {comp : Int} {k : Nat} {S1 S2 : List Nat} {L : List (Nat × TypeId × Array Value)} {ps1 ps2 : List Pt} {wr : World}
theorem CI.alloc_at (h : CI K w ad g g2 comp k S1 S2 L ps1 ps2 wr) (t : TypeId) (cs : Array Value) {b : Nat} (hb : wr.heap.size = b) : CI K w ad g g2 comp k S1 S2 ((b, t, cs) :: L) ps1 ps2 (wr.alloc (.cells cs t)) := by
  subst hb
  exact h.alloc t cs
theorem CI.ne (h : CI K w ad g g2 comp k S1 S2 L ps1 ps2 wr) {a b : Nat} {t u : TypeId} {cs ds : Array Value} (ha : (a, t, cs) ∈ L) (hb : (b, u, ds) ∈ L) (hne : t ≠ u) : a ≠ b := fun e => by
  subst e
  have h1 : wr.heap[a]? = some (.cells cs t) := h.cx.blk ha
  have h2 : wr.heap[a]? = some (.cells ds u) := h.cx.blk hb
  rw [h1] at h2
  exact hne (by injection h2 with h2; injection h2)
theorem CI.part' (h : CI K w ad g g2 comp k S1 S2 L ps1 ps2 wr) {b : Nat} {z : Pt} (hm : (b, 35, boxP z) ∈ L) (hb : w.heap.size ≤ b) (p : Pt) {L' : List (Nat × TypeId × Array Value)} (hL : ∀ x ∈ L', x ∈ L ∧ x.1 ≠ b) :
    CI K w ad g g2 comp k S1 S2 ((b, 35, boxP p) :: L') ps1 ps2 ((((((wr.setCell ⟨b, 0, none⟩ (.int .i64 p.c)).setCell ⟨b, 1, none⟩ (.int .i64 p.v0)).setCell ⟨b, 2, none⟩ (.int .i64 p.v1)).setCell ⟨b, 3, none⟩ (.int .i64 p.v2)).setCell ⟨b, 4, none⟩ (.int .i64 p.v3)).setCell ⟨b, 5, none⟩ (.int .i64 p.t)) :=
  h.part hm hb _ _ _ _ _ _ hL
theorem CI.act (h : CI K w ad g g2 comp k S1 S2 L ps1 ps2 wr) {b : Nat} {x0 x1 x2 x3 x4 x5 x6 x7 x8 x9 : Value} (hm : (b, 52, #[x0, x1, x2, x3, x4, x5, x6, x7, x8, x9]) ∈ L) :
    wr.cell? ⟨b, 0, none⟩ = some x0 ∧ wr.cell? ⟨b, 1, none⟩ = some x1 ∧ wr.cell? ⟨b, 2, none⟩ = some x2 ∧ wr.cell? ⟨b, 3, none⟩ = some x3 ∧ wr.cell? ⟨b, 4, none⟩ = some x4 ∧ wr.cell? ⟨b, 5, none⟩ = some x5 ∧ wr.cell? ⟨b, 6, none⟩ = some x6 ∧ wr.cell? ⟨b, 7, none⟩ = some x7 ∧ wr.cell? ⟨b, 8, none⟩ = some x8 ∧ wr.cell? ⟨b, 9, none⟩ = some x9 ∧ b < wr.heap.size := by
  have hb := h.cx.blk hm
  exact ⟨hb.at_ 0 rfl, hb.at_ 1 rfl, hb.at_ 2 rfl, hb.at_ 3 rfl, hb.at_ 4 rfl, hb.at_ 5 rfl, hb.at_ 6 rfl, hb.at_ 7 rfl, hb.at_ 8 rfl, hb.at_ 9 rfl, hb.lt⟩
theorem CI.cel (h : CI K w ad g g2 comp k S1 S2 L ps1 ps2 wr) {b : Nat} (p : Pt) (hm : (b, 35, boxP p) ∈ L) :
    wr.cell? ⟨b, 0, none⟩ = some (.int .i64 p.c) ∧ wr.cell? ⟨b, 1, none⟩ = some (.int .i64 p.v0) ∧ wr.cell? ⟨b, 2, none⟩ = some (.int .i64 p.v1) ∧ wr.cell? ⟨b, 3, none⟩ = some (.int .i64 p.v2) ∧ wr.cell? ⟨b, 4, none⟩ = some (.int .i64 p.v3) ∧ wr.cell? ⟨b, 5, none⟩ = some (.int .i64 p.t) ∧ (∀ i, wr.frozen? ⟨b, i, none⟩ = false) ∧ b < wr.heap.size := by
  have hb := h.cx.blk hm
  exact ⟨hb.at_ 0 rfl, hb.at_ 1 rfl, hb.at_ 2 rfl, hb.at_ 3 rfl, hb.at_ 4 rfl, hb.at_ 5 rfl, hb.frozen, hb.lt⟩
end
/-- what region 33 reads -/
theorem keep33 {K : List Nat} {w : World} {ad : Nat → Addr} {g g2 : Nat} {comp : Int} {k : Nat} {S1 S2 : List Nat} {L : List (Nat × TypeId × Array Value)} {ps1 ps2 : List Pt} {wr : World}
    (h : CI K w ad g g2 comp k S1 S2 L ps1 ps2 wr) {b13 b12 : Nat} {pc p0 p1 p2 p3 pt : Int} (m13 : (b13, 35, boxP ⟨pc, p0, p1, p2, p3, pt⟩) ∈ L) (m12 : (b12, 35, boxP ⟨pc, p0, p1, p2, p3, pt⟩) ∈ L) {t : TypeId} {x0 x1 x2 : Value} (hg : Blk wr g2 t #[x0, x1, x2]) :
    (wr.cell? ⟨b12, 0, none⟩ = some (.int .i64 pc) ∧ wr.cell? ⟨b12, 1, none⟩ = some (.int .i64 p0) ∧ wr.cell? ⟨b12, 2, none⟩ = some (.int .i64 p1) ∧ wr.cell? ⟨b12, 3, none⟩ = some (.int .i64 p2) ∧ wr.cell? ⟨b12, 4, none⟩ = some (.int .i64 p3) ∧ wr.cell? ⟨b12, 5, none⟩ = some (.int .i64 pt)) ∧
    (wr.cell? ⟨b13, 0, none⟩ = some (.int .i64 pc) ∧ wr.cell? ⟨b13, 1, none⟩ = some (.int .i64 p0) ∧ wr.cell? ⟨b13, 2, none⟩ = some (.int .i64 p1) ∧ wr.cell? ⟨b13, 3, none⟩ = some (.int .i64 p2) ∧ wr.cell? ⟨b13, 4, none⟩ = some (.int .i64 p3) ∧ wr.cell? ⟨b13, 5, none⟩ = some (.int .i64 pt)) ∧
    wr.cell? ⟨g2, 2, none⟩ = some x2 := by
  obtain ⟨z0, z1, z2, z3, z4, z5, _, _⟩ := h.cel _ m12
  obtain ⟨y0, y1, y2, y3, y4, y5, _, _⟩ := h.cel _ m13
  exact ⟨⟨z0, z1, z2, z3, z4, z5⟩, ⟨y0, y1, y2, y3, y4, y5⟩, hg.at_ 2 rfl⟩
theorem fits_put {comp : Int} {k : Nat} {ps : List Pt} (h : ∀ p ∈ ps, Fits comp k p) {q : Pt} (hq : Fits comp k q) (n : Nat) : ∀ p ∈ ps.set n q, Fits comp k p := fun p hp =>
  (List.mem_or_eq_of_mem_set hp).elim (h p) fun e => e ▸ hq
theorem fits_app {comp : Int} {k : Nat} {ps : List Pt} (h : ∀ p ∈ ps, Fits comp k p) {q : Pt} (hq : Fits comp k q) : ∀ p ∈ ps ++ [q], Fits comp k p := fun p hp =>
  (List.mem_append.1 hp).elim (h p) fun e => (List.mem_singleton.1 e) ▸ hq
theorem fits_take {comp : Int} {k : Nat} {ps : List Pt} (h : ∀ p ∈ ps, Fits comp k p) {q : Pt} (hq : q ∈ ps) (n m : Nat) : ∀ p ∈ (ps.set n q).take m, Fits comp k p := fun p hp =>
  fits_put h (h q hq) n p (List.mem_of_mem_take hp)

/-- the block of a number -/
def blkOf (n : Nat) : Code → Option Code
  | .block m c => if m = n then some (.block m c) else blkOf n c
  | .seq a b => match blkOf n a with
    | some c => some c
    | none => blkOf n b
  | .loop c => blkOf n c
  | .scope c => blkOf n c
  | .cond _ a b => match blkOf n a with
    | some c => some c
    | none => blkOf n b
  | _ => none
/-- the switch of a round -/
noncomputable def sw : Code := ((Tryd.f6.body.bind (blkOf 2)).getD .skip)
end Go.Proofs.YtgifeligogjfiaaDoor

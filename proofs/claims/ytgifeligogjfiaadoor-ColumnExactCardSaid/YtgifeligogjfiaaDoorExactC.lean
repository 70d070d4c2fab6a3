/- ColumnExact: what holds between the calls: the program's column and the reference's, apart from each other; the list of calls, opened. -/
import Derived.Test.YtgifeligogjfiaaDoorRC5
import Derived.Test.YtgifeligogjfiaaDoorNum
import Derived.Test.YtgifeligogjfiaaDoorLeaf
namespace Go.Proofs.YtgifeligogjfiaaDoor
open Go.ChangeShapes Go.WideShapes Go.ChangeAt Go.RowKit Go.Deep

/-- a column at g and one of the reference at g2, apart; local blocks L -/
structure CI (K : List Nat) (w : World) (ad : Nat → Addr) (g g2 : Nat) (comp : Int) (k : Nat) (S1 S2 : List Nat) (L : List (Nat × TypeId × Array Value)) (ps1 ps2 : List Pt) (wr : World) : Prop where
  col : ColR w.heap.size wr g comp k ps1 S1
  ref : RefC w.heap.size wr g2 comp k ps2 S2
  dis : ∀ b ∈ S1, b ∉ S2
  cx : Cx K w.heap.size ad w wr (S1 ++ S2) L

section
variable {K : List Nat} {w : World} {ad : Nat → Addr} {g g2 : Nat} {comp : Int} {k : Nat} {S1 S2 S' : List Nat} {L : List (Nat × TypeId × Array Value)} {ps1 ps2 ps' : List Pt} {wr w' : World}
theorem CI.fr0 (h : CI K w ad g g2 comp k S1 S2 L ps1 ps2 wr) (hf : Fr [] wr w') : CI K w ad g g2 comp k S1 S2 L ps1 ps2 w' := ⟨h.col.fr0 hf, h.ref.fr0 hf, h.dis, h.cx.fr0 hf⟩
theorem CI.alloc (h : CI K w ad g g2 comp k S1 S2 L ps1 ps2 wr) (t : TypeId) (cs : Array Value) : CI K w ad g g2 comp k S1 S2 ((wr.heap.size, t, cs) :: L) ps1 ps2 (wr.alloc (.cells cs t)) := ⟨h.col.alloc _, h.ref.alloc _, h.dis, h.cx.alloc t cs⟩
theorem CI.sub (h : CI K w ad g g2 comp k S1 S2 L ps1 ps2 wr) {L' : List (Nat × TypeId × Array Value)} (hL : ∀ x ∈ L', x ∈ L) : CI K w ad g g2 comp k S1 S2 L' ps1 ps2 wr :=
  ⟨h.col, h.ref, h.dis, ⟨h.cx.sents, fun x hx => h.cx.loc x (hL x hx), h.cx.lt, h.cx.fr, h.cx.new, h.cx.le⟩⟩
theorem CI.err (h : CI K w ad g g2 comp k S1 S2 L ps1 ps2 wr) (hf : Fr [] wr w') {u : Value} {j : Nat} (hn : NewErr wr w' ad u j) :
    ∃ (b : Nat) (s : ByteArray), u = .iface 79 (.pointer (some ⟨b, 0, none⟩)) ∧ CI K w ad g g2 comp k S1 S2 ((b, 81, #[.string s, sv (ad j)]) :: L) ps1 ps2 w' := by
  obtain ⟨b, s, hu, hc⟩ := h.cx.err hf hn
  exact ⟨b, s, hu, (h.fr0 hf).col, (h.fr0 hf).ref, h.dis, hc⟩
theorem Stp.same {S : List Nat} {a b : World} (h : Fr S a b) : Stp S S a b := ⟨h, fun _ hb => .inl hb⟩
/-- the column has turned -/
theorem CI.one (h : CI K w ad g g2 comp k S1 S2 L ps1 ps2 wr) (hr : ColR w.heap.size w' g comp k ps' S') (hst : Stp S1 S' wr w') : CI K w ad g g2 comp k S' S2 L ps' ps2 w' where
  col := hr
  ref := h.ref.fr hst.1 fun b hb hm => h.dis b hm hb
  dis := fun b hb hm => (hst.2 b hb).elim (fun h1 => h.dis b h1 hm) fun hge => by have := (h.ref.lt b hm).1; omega
  cx := h.cx.go hst.1 (fun b hb => List.mem_append_left _ hb) (fun b hb => (List.mem_append.1 hb).elim (fun h1 => (hst.2 b h1).elim (fun h2 => .inl (List.mem_append_left _ h2)) .inr) fun h1 => .inl (List.mem_append_right _ h1))
    (fun b hb => (List.mem_append.1 hb).elim (fun h1 => (hr.lt b h1).1) fun h1 => Nat.lt_of_lt_of_le (h.ref.lt b h1).1 hst.1.size)
/-- the reference's column has turned -/
theorem CI.two (h : CI K w ad g g2 comp k S1 S2 L ps1 ps2 wr) (hr : RefC w.heap.size w' g2 comp k ps' S') (hst : Stp S2 S' wr w') : CI K w ad g g2 comp k S1 S' L ps1 ps' w' where
  col := h.col.fr hst.1 h.dis
  ref := hr
  dis := fun b hb hm => (hst.2 b hm).elim (h.dis b hb) fun hge => by have := (h.col.lt b hb).1; omega
  cx := h.cx.go hst.1 (fun b hb => List.mem_append_right _ hb) (fun b hb => (List.mem_append.1 hb).elim (fun h1 => .inl (List.mem_append_left _ h1)) fun h1 => (hst.2 b h1).elim (fun h2 => .inl (List.mem_append_right _ h2)) .inr)
    (fun b hb => (List.mem_append.1 hb).elim (fun h1 => Nat.lt_of_lt_of_le (h.col.lt b h1).1 hst.1.size) fun h1 => (hr.lt b h1).1)
theorem CI.below (h : CI K w ad g g2 comp k S1 S2 L ps1 ps2 wr) : Below w.heap.size w wr := h.cx.fr.below (by simp) (Nat.le_refl _)
/-- a local part was written, cell by cell -/
theorem CI.part (h : CI K w ad g g2 comp k S1 S2 L ps1 ps2 wr) {b : Nat} {z0 z1 z2 z3 z4 z5 : Value} (hm : (b, 35, #[z0, z1, z2, z3, z4, z5]) ∈ L) (hb : w.heap.size ≤ b) (a0 a1 a2 a3 a4 a5 : Value) {L' : List (Nat × TypeId × Array Value)} (hL : ∀ x ∈ L', x ∈ L ∧ x.1 ≠ b) :
    CI K w ad g g2 comp k S1 S2 ((b, 35, #[a0, a1, a2, a3, a4, a5]) :: L') ps1 ps2 ((((((wr.setCell ⟨b, 0, none⟩ a0).setCell ⟨b, 1, none⟩ a1).setCell ⟨b, 2, none⟩ a2).setCell ⟨b, 3, none⟩ a3).setCell ⟨b, 4, none⟩ a4).setCell ⟨b, 5, none⟩ a5) := by
  have hl := h.cx.loc _ hm
  have hf := Fr.set6in (Fr.refl [b] wr) (g := b) (by simp) a0 a1 a2 a3 a4 a5
  have hS : ∀ x ∈ S1 ++ S2, x ∉ [b] := fun x hx hm' => by
    rw [List.mem_singleton] at hm'
    subst hm'
    exact hl.2 hx
  refine ⟨h.col.fr hf fun x hx => hS x (List.mem_append_left _ hx), h.ref.fr hf fun x hx => hS x (List.mem_append_right _ hx), h.dis, ?_⟩
  have c0 := h.cx.none.go2 hf (fun x hx => by rw [List.mem_singleton] at hx; subst hx; exact hb) hS
  refine ⟨c0.sents, fun x hx => ?_, c0.lt, c0.fr, c0.new, c0.le⟩
  rcases List.mem_cons.1 hx with rfl | hx
  · exact ⟨hl.1.set6 a0 a1 a2 a3 a4 a5, hl.2⟩
  · have h1 := h.cx.loc x (hL x hx).1
    exact ⟨h1.1.fr hf (by rw [List.mem_singleton]; exact (hL x hx).2), h1.2⟩
end

structure Act where
  kind : Int
  n : Int
  p : Pt
  cell : Int
  value : Int
def encAct (a : Act) : List Value := [.int .i64 a.kind, .int .i64 a.n, .int .i64 a.p.c, .int .i64 a.p.v0, .int .i64 a.p.v1, .int .i64 a.p.v2, .int .i64 a.p.v3, .int .i64 a.p.t, .int .i64 a.cell, .int .i64 a.value]
theorem encAct_len : ∀ a, (encAct a).length = 10 := fun _ => rfl
theorem actLeaves : leaves Tryd.prog 6 52 = some [.int .i64, .int .i64, .int .i64, .int .i64, .int .i64, .int .i64, .int .i64, .int .i64, .int .i64, .int .i64] := by kernel_rfl
theorem actCells : Tryd.prog.cellsOf 52 = 10 := by kernel_rfl

set_option maxRecDepth 100000 in
theorem open_acts {H : Type} {enc : TypeId × Value → H} {W : World} {base : Nat} {spare : Nat → Bool} {held : Bool} {v : Value} {d : DataW H} {ps : List MemPlace} {r : Reach} {b0 : Nat}
    (hv : Value.okWide Tryd.prog W r b0 48 v) (h : DataW.Trod enc Tryd.prog W base spare held 48 v d ps) :
    ∃ (A : Option Addr) (n c : Nat) (l : List Act), v = .slice A n c ∧ l.length = n ∧ n ≤ maxLen ∧ (∀ m ∈ l, True) ∧ Reads W W.heap.size 10 A n (l.flatMap encAct) :=
  open_list (k := 10) encAct (fun _ => True) encAct_len Tryd.underlying48 actCells (by omega) (fun n cs x h => by
    have h4 := leaves_ok 6 _ _ _ _ _ actLeaves h
    cases h4 with | cons a0 b0 => cases b0 with | cons a1 b1 => cases b1 with | cons a2 b2 => cases b2 with | cons a3 b3 => cases b3 with | cons a4 b4 => cases b4 with | cons a5 b5 => cases b5 with | cons a6 b6 => cases b6 with | cons a7 b7 => cases b7 with | cons a8 b8 => cases b8 with | cons a9 b9 => cases b9 with | nil =>
    obtain ⟨x0, rfl, _⟩ := a0
    obtain ⟨x1, rfl, _⟩ := a1
    obtain ⟨x2, rfl, _⟩ := a2
    obtain ⟨x3, rfl, _⟩ := a3
    obtain ⟨x4, rfl, _⟩ := a4
    obtain ⟨x5, rfl, _⟩ := a5
    obtain ⟨x6, rfl, _⟩ := a6
    obtain ⟨x7, rfl, _⟩ := a7
    obtain ⟨x8, rfl, _⟩ := a8
    obtain ⟨x9, rfl, _⟩ := a9
    exact ⟨⟨x0, x1, ⟨x2, x3, x4, x5, x6, x7⟩, x8, x9⟩, rfl, trivial⟩) hv h
end Go.Proofs.YtgifeligogjfiaaDoor

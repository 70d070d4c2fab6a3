/- RollExact: what holds between the calls: the program's roll and the reference's, apart from each other. -/
import Derived.Test.YtghffjlgiclieaaDoorRef3
import Derived.Test.YtghffjlgiclieaaDoorRef4
import Derived.Test.YtghffjlgiclieaaDoorNum
import Derived.Test.YtghffjlgiclieaaDoorActs
namespace Go.Proofs.YtghffjlgiclieaaDoor
open Go.RowKit

/-- rows of other element types lie apart from a roll of the reference -/
theorem RefR.apart {B B' : Nat} {w : World} {g : Nat} {ps : List (Int × Bool)} {row : List Nat} {S : List Nat} (h : RefR B w g ps row S) {e : TypeId} {size n : Nat} {v : Value} {xs : List Value} (hr : w.ownsRow B' e size v n xs)
    (h1 : e ≠ 62) (h2 : e ≠ 4) (h3 : e ≠ 3) : ∀ b, v.ownBlock = some b → b ∉ S := by
  obtain ⟨vg, vi, vf, hB, hg, r1, r2, r3, _, rfl⟩ := h
  intro b hb hm
  simp only [List.mem_cons, List.mem_append, Option.mem_toList] at hm
  rcases hm with rfl | hm | hm | hm
  · exact row_blk_ne hr hg h1 hb
  · exact row_row_ne hr r1 h3 b hb hm
  · exact row_row_ne hr r2 h2 b hb hm
  · exact row_row_ne hr r3 h3 b hb hm

/-- a Roll at g and one of the reference at g2, apart; local blocks L; the list of those that were given -/
structure DI (K : List Nat) (w : World) (ad : Nat → Addr) (g g2 : Nat) (S1 S2 : List Nat) (L : List (Nat × TypeId × Array Value)) (ps1 : List (Int × Bool)) (row1 : List Nat) (ps2 : List (Int × Bool)) (row2 : List Nat) (v : Value) (gs : List (Nat × Int)) (wr : World) : Prop where
  roll : RollR w.heap.size wr g ps1 row1 S1
  ref : RefR w.heap.size wr g2 ps2 row2 S2
  dis : ∀ b ∈ S1, b ∉ S2
  cx : Cx K w.heap.size ad w wr (S1 ++ S2) L
  row : wr.ownsRow w.heap.size 31 2 v gs.length (gs.flatMap encE)

section
variable {K : List Nat} {w : World} {ad : Nat → Addr} {g g2 : Nat} {S1 S2 S' : List Nat} {L : List (Nat × TypeId × Array Value)} {ps1 ps2 ps' : List (Int × Bool)} {row1 row2 row' : List Nat} {v : Value} {gs : List (Nat × Int)} {wr w' : World}
theorem DI.fr0 (h : DI K w ad g g2 S1 S2 L ps1 row1 ps2 row2 v gs wr) (hf : Fr [] wr w') : DI K w ad g g2 S1 S2 L ps1 row1 ps2 row2 v gs w' :=
  ⟨h.roll.fr hf (by simp), h.ref.fr0 hf, h.dis, h.cx.fr0 hf, row_fr h.row hf (by simp)⟩
theorem DI.alloc (h : DI K w ad g g2 S1 S2 L ps1 row1 ps2 row2 v gs wr) (t : TypeId) (cs : Array Value) : DI K w ad g g2 S1 S2 ((wr.heap.size, t, cs) :: L) ps1 row1 ps2 row2 v gs (wr.alloc (.cells cs t)) :=
  ⟨h.roll.alloc _, h.ref.alloc _, h.dis, h.cx.alloc t cs, h.row.alloc _⟩
theorem DI.sub (h : DI K w ad g g2 S1 S2 L ps1 row1 ps2 row2 v gs wr) {L' : List (Nat × TypeId × Array Value)} (hL : ∀ x ∈ L', x ∈ L) : DI K w ad g g2 S1 S2 L' ps1 row1 ps2 row2 v gs wr :=
  ⟨h.roll, h.ref, h.dis, ⟨h.cx.sents, fun x hx => h.cx.loc x (hL x hx), h.cx.lt, h.cx.fr, h.cx.new, h.cx.le⟩, h.row⟩
theorem DI.err (h : DI K w ad g g2 S1 S2 L ps1 row1 ps2 row2 v gs wr) (hf : Fr [] wr w') {u : Value} {k : Nat} (hn : NewErr wr w' ad u k) :
    ∃ (b : Nat) (s : ByteArray), u = .iface 68 (.pointer (some ⟨b, 0, none⟩)) ∧ DI K w ad g g2 S1 S2 ((b, 70, #[.string s, sv (ad k)]) :: L) ps1 row1 ps2 row2 v gs w' := by
  obtain ⟨b, s, hu, hc⟩ := h.cx.err hf hn
  exact ⟨b, s, hu, (h.fr0 hf).roll, (h.fr0 hf).ref, h.dis, hc, (h.fr0 hf).row⟩
/-- the roll has turned -/
theorem DI.one (h : DI K w ad g g2 S1 S2 L ps1 row1 ps2 row2 v gs wr) (hr : RollR w.heap.size w' g ps' row' S') (hst : Stp S1 S' wr w') : DI K w ad g g2 S' S2 L ps' row' ps2 row2 v gs w' where
  roll := hr
  ref := h.ref.fr hst.1 fun b hb hm => h.dis b hm hb
  dis := fun b hb hm => (hst.2 b hb).elim (fun h1 => h.dis b h1 hm) fun hge => by have := (h.ref.lt b hm).1; omega
  cx := h.cx.go hst.1 (fun b hb => List.mem_append_left _ hb) (fun b hb => (List.mem_append.1 hb).elim (fun h1 => (hst.2 b h1).elim (fun h2 => .inl (List.mem_append_left _ h2)) .inr) fun h1 => .inl (List.mem_append_right _ h1))
    (fun b hb => (List.mem_append.1 hb).elim (fun h1 => (hr.lt b h1).1) fun h1 => Nat.lt_of_lt_of_le (h.ref.lt b h1).1 hst.1.size)
  row := row_fr h.row hst.1 (h.roll.apart h.row (by decide) (by decide) (by decide))
/-- the reference's roll has turned -/
theorem DI.two (h : DI K w ad g g2 S1 S2 L ps1 row1 ps2 row2 v gs wr) (hr : RefR w.heap.size w' g2 ps' row' S') (hst : Stp S2 S' wr w') : DI K w ad g g2 S1 S' L ps1 row1 ps' row' v gs w' where
  roll := h.roll.fr hst.1 h.dis
  ref := hr
  dis := fun b hb hm => (hst.2 b hm).elim (h.dis b hb) fun hge => by have := (h.roll.lt b hb).1; omega
  cx := h.cx.go hst.1 (fun b hb => List.mem_append_right _ hb) (fun b hb => (List.mem_append.1 hb).elim (fun h1 => .inl (List.mem_append_left _ h1)) fun h1 => (hst.2 b h1).elim (fun h2 => .inl (List.mem_append_right _ h2)) .inr)
    (fun b hb => (List.mem_append.1 hb).elim (fun h1 => Nat.lt_of_lt_of_le (h.roll.lt b h1).1 hst.1.size) fun h1 => (hr.lt b h1).1)
  row := row_fr h.row hst.1 (h.ref.apart h.row (by decide) (by decide) (by decide))
theorem Stp.same {S : List Nat} {a b : World} (h : Fr S a b) : Stp S S a b := ⟨h, fun _ hb => .inl hb⟩
/-- one more that was given -/
theorem DI.app (h : DI K w ad g g2 S1 S2 [] ps1 row1 ps2 row2 v gs wr) {v' : Value} {e : Nat × Int} (hr : w'.ownsRow w.heap.size 31 2 v' (gs.length + 1) (gs.flatMap encE ++ encE e)) (hg : wr.grownBy w' v.ownBlock) : DI K w ad g g2 S1 S2 [] ps1 row1 ps2 row2 v' (gs ++ [e]) w' where
  roll := h.roll.fr (Fr.of_grown (S := v.ownBlock.toList) hg fun k hk => .inl (by simp [hk])) fun b hb hm => h.roll.apart h.row (by decide) (by decide) (by decide) b (by simpa using hm) hb
  ref := h.ref.fr (Fr.of_grown (S := v.ownBlock.toList) hg fun k hk => .inl (by simp [hk])) fun b hb hm => h.ref.apart h.row (by decide) (by decide) (by decide) b (by simpa using hm) hb
  dis := h.dis
  cx := h.cx.go2 (T := v.ownBlock.toList) (Fr.of_grown (S := v.ownBlock.toList) hg fun k hk => .inl (by simp [hk])) (fun b hb => (row_lt h.row (by simpa using hb)).2) (fun b hb hm => by
    have hm' : v.ownBlock = some b := by simpa using hm
    rcases List.mem_append.1 hb with h1 | h1
    · exact h.roll.apart h.row (by decide) (by decide) (by decide) b hm' h1
    · exact h.ref.apart h.row (by decide) (by decide) (by decide) b hm' h1)
  row := by
    rw [List.length_append, List.length_singleton, List.flatMap_append, List.flatMap_singleton]
    exact hr
/-- a local block was written, cell by cell -/
theorem DI.loc (h : DI K w ad g g2 S1 S2 L ps1 row1 ps2 row2 v gs wr) {b : Nat} {t : TypeId} {cs cs' : Array Value} (hm : (b, t, cs) ∈ L) (hb : w.heap.size ≤ b) (ht : t ≠ 31) (hf : Fr [b] wr w') (hb' : Blk w' b t cs') : DI K w ad g g2 S1 S2 [(b, t, cs')] ps1 row1 ps2 row2 v gs w' := by
  have hl := h.cx.loc _ hm
  have hS : ∀ x ∈ S1 ++ S2, x ∉ [b] := fun x hx hm' => by
    rw [List.mem_singleton] at hm'
    subst hm'
    exact hl.2 hx
  exact ⟨h.roll.fr hf fun x hx => hS x (List.mem_append_left _ hx), h.ref.fr hf fun x hx => hS x (List.mem_append_right _ hx), h.dis,
    (h.cx.none.go2 hf (fun x hx => by rw [List.mem_singleton] at hx; subst hx; exact hb) hS).more hb' hl.2,
    row_fr h.row hf fun x hx hm' => by
      rw [List.mem_singleton] at hm'
      subst hm'
      exact row_blk_ne h.row hl.1 (Ne.symm ht) hx⟩
theorem DI.below (h : DI K w ad g g2 S1 S2 L ps1 row1 ps2 row2 v gs wr) : Below w.heap.size w wr := h.cx.fr.below (by simp) (Nat.le_refl _)
end
end Go.Proofs.YtghffjlgiclieaaDoor

/- Words on memory for the proofs of this seat: a block that is known whole, a frame over a list of blocks, a row that a slice owns. Nothing of the program stands here. -/
import Derived.WalkKit
import Derived.Lib.Hide
import Derived.Deep.Draws
import Derived.Deep.AppendLies
import Derived.Deep.RegionHeld3
import Derived.Deep.RegionWith
import Derived.Deep.QuietTactic
import Derived.BigQuiet
import Derived.Deep.LoopGhost
import Derived.StillTailTactics
import Derived.Laws.OwnMore
namespace Go.Proofs.YtioeafjlbdpjoaaDoor
open Go.RowKit

theorem hide {p : Prop} (h : p) : Hid p := h

/-! ### A block that is known whole -/
def Blk (w : World) (g : Nat) (t : TypeId) (cs : Array Value) : Prop := w.heap[g]? = some (.cells cs t (0, 0))

section
variable {w w' : World} {g : Nat} {t : TypeId} {cs : Array Value}
theorem Blk.lt (h : Blk w g t cs) : g < w.heap.size := by
  rcases Nat.lt_or_ge g w.heap.size with hlt | hge
  · exact hlt
  · unfold Blk at h; rw [Array.getElem?_eq_none hge] at h; cases h
theorem Blk.cell (h : Blk w g t cs) (i : Nat) : w.cell? ⟨g, i, none⟩ = cs[i]? := cell_of_row w g i cs t (0, 0) h
theorem Blk.at_ (h : Blk w g t cs) (i : Nat) {v : Value} (hv : cs[i]? = some v) : w.cell? ⟨g, i, none⟩ = some v := (h.cell i).trans hv
theorem Blk.frozen (h : Blk w g t cs) (i : Nat) : w.frozen? ⟨g, i, none⟩ = false := by
  unfold Blk at h
  simp [World.frozen?, h]
theorem Blk.new (w : World) (t : TypeId) (cs : Array Value) : Blk (w.alloc (.cells cs t)) w.heap.size t cs := heap_alloc_new w _
theorem Blk.new_at (w : World) (t : TypeId) (cs : Array Value) (n : Nat) (hn : n = w.heap.size) : Blk (w.alloc (.cells cs t)) n t cs := by subst hn; exact heap_alloc_new w _
theorem Blk.drew (h : Blk w g t cs) : Blk w.drew g t cs := h
theorem Blk.drewN (h : Blk w g t cs) (n : Nat) : Blk (w.drewN n) g t cs := h
theorem Blk.alloc (h : Blk w g t cs) (o : Obj) : Blk (w.alloc o) g t cs := (Below.heap_alloc w o g h.lt).trans h
theorem Blk.set_ (h : Blk w g t cs) (i : Nat) (u : Value) : Blk (w.setCell ⟨g, i, none⟩ u) g t (cs.setIfInBounds i u) := by
  unfold Blk at h ⊢
  simp [World.setCell, Array.getElem?_modify, h]
theorem Blk.far (h : Blk w g t cs) {p : Addr} (hp : g ≠ p.block) (u : Value) : Blk (w.setCell p u) g t cs := (Below.heap_setCell w p u g hp).trans h
theorem Blk.grown {row : Option Nat} (h : Blk w g t cs) (hb : w.grownBy w' row) (hg : some g ≠ row) : Blk w' g t cs := (hb.block g h.lt hg).trans h
theorem Blk.ne_ {g' : Nat} {t' : TypeId} {cs' : Array Value} (h : Blk w g t cs) (h' : Blk w g' t' cs') (hne : t ≠ t') : g ≠ g' := by
  rintro rfl
  unfold Blk at h h'
  rw [h] at h'
  injection h' with h'
  injection h' with _ ht
  exact hne ht
theorem Blk.unique {t' : TypeId} {cs' : Array Value} (h : Blk w g t cs) (h' : Blk w g t' cs') : cs = cs' := by
  unfold Blk at h h'
  rw [h] at h'
  injection h' with h'
  injection h' with hc _
end

/-! ### A frame: only the blocks of a list, and new ones, have turned -/
structure Fr (S : List Nat) (w w' : World) : Prop where
  os : w'.os = w.os
  tape : w'.tape = w.tape
  output : w'.output = w.output
  size : w.heap.size ≤ w'.heap.size
  block : ∀ k, k < w.heap.size → k ∉ S → w'.heap[k]? = w.heap[k]?

section
variable {S T : List Nat} {a b c w w' : World}
theorem Fr.refl (S : List Nat) (w : World) : Fr S w w := ⟨rfl, rfl, rfl, Nat.le_refl _, fun _ _ _ => rfl⟩
theorem Fr.trans (h : Fr S a b) (k : Fr S b c) : Fr S a c :=
  ⟨k.os.trans h.os, k.tape.trans h.tape, k.output.trans h.output, Nat.le_trans h.size k.size, fun i hi hn => (k.block i (Nat.lt_of_lt_of_le hi h.size) hn).trans (h.block i hi hn)⟩
theorem Fr.mono (h : Fr S a b) (hs : ∀ x ∈ S, x ∈ T) : Fr T a b := ⟨h.os, h.tape, h.output, h.size, fun i hi hn => h.block i hi fun hm => hn (hs i hm)⟩
theorem Fr.any (h : Fr [] a b) (T : List Nat) : Fr T a b := h.mono fun _ hx => by cases hx
/-- a second step, at blocks of the first one's or new ones -/
theorem Fr.step (h : Fr S a b) (k : Fr T b c) (hT : ∀ x ∈ T, x ∈ S ∨ a.heap.size ≤ x) : Fr S a c :=
  ⟨k.os.trans h.os, k.tape.trans h.tape, k.output.trans h.output, Nat.le_trans h.size k.size, fun i hi hn =>
    (k.block i (Nat.lt_of_lt_of_le hi h.size) fun hm => (hT i hm).elim hn fun hge => by omega).trans (h.block i hi hn)⟩
theorem Fr.drew (h : Fr S a w) : Fr S a w.drew := ⟨h.os, h.tape, h.output, h.size, h.block⟩
theorem Fr.drewN (h : Fr S a w) (n : Nat) : Fr S a (w.drewN n) := ⟨h.os, h.tape, h.output, h.size, h.block⟩
theorem Fr.alloc (h : Fr S a w) (o : Obj) : Fr S a (w.alloc o) :=
  ⟨h.os, h.tape, h.output, Nat.le_trans h.size (by simp), fun i hi hn => (Below.heap_alloc w o i (Nat.lt_of_lt_of_le hi h.size)).trans (h.block i hi hn)⟩
theorem Fr.setCell (h : Fr S a w) {p : Addr} (hp : p.block ∈ S ∨ a.heap.size ≤ p.block) (u : Value) : Fr S a (w.setCell p u) :=
  ⟨h.os, h.tape, h.output, by simpa [World.setCell] using h.size, fun i hi hn => (Below.heap_setCell w p u i (by
    rintro rfl
    rcases hp with hp | hp
    · exact hn hp
    · omega)).trans (h.block i hi hn)⟩
theorem Fr.grown (h : Fr S a w) {row : Option Nat} (hg : w.grownBy w' row) (hr : ∀ k, row = some k → k ∈ S ∨ a.heap.size ≤ k) : Fr S a w' :=
  ⟨hg.os.trans h.os, hg.tape.trans h.tape, hg.output.trans h.output, Nat.le_trans h.size hg.size, fun i hi hn =>
    (hg.block i (Nat.lt_of_lt_of_le hi h.size) fun e => (hr i e.symm).elim hn fun hge => by omega).trans (h.block i hi hn)⟩
theorem Fr.of_grown {row : Option Nat} (hg : a.grownBy w' row) (hr : ∀ k, row = some k → k ∈ S ∨ a.heap.size ≤ k) : Fr S a w' := (Fr.refl S a).grown hg hr
theorem Fr.below {B : Nat} (h : Fr S a b) (hs : ∀ x ∈ S, B ≤ x) (hB : B ≤ a.heap.size) : Below B a b :=
  ⟨h.os, h.tape, h.output, h.size, fun k hk => h.block k (by omega) fun hm => by have := hs k hm; omega⟩
theorem Fr.of_below (h : Below a.heap.size a b) (S : List Nat) : Fr S a b := ⟨h.os, h.tape, h.output, h.size, fun k hk _ => h.block k hk⟩
theorem Blk.fr {g : Nat} {t : TypeId} {cs : Array Value} (h : Blk a g t cs) (hf : Fr S a b) (hg : g ∉ S) : Blk b g t cs := (hf.block g h.lt hg).trans h
theorem Blk.fr0 {g : Nat} {t : TypeId} {cs : Array Value} (h : Blk a g t cs) (hf : Fr [] a b) : Blk b g t cs := h.fr hf (by simp)
theorem Fr.cell (hf : Fr S a b) {p : Addr} (hp : p.block < a.heap.size) (hn : p.block ∉ S) : b.cell? p = a.cell? p := World.cell?_of_block (w := a) (hf.block p.block hp hn)
theorem row_fr {base : Nat} {e : TypeId} {size n : Nat} {v : Value} {xs : List Value} (h : a.ownsRow base e size v n xs) (hf : Fr S a b) (hv : ∀ k, v.ownBlock = some k → k ∉ S) : b.ownsRow base e size v n xs := by
  refine ⟨h.1, ?_⟩
  rcases h.2 with h0 | ⟨g, cap, cur, hv', hb, hg, h1, h2, h3, h4⟩
  · exact .inl h0
  · refine .inr ⟨g, cap, cur, hv', hb, ?_, h1, h2, h3, h4⟩
    have hlt : g < a.heap.size := Blk.lt (t := e) (cs := cur) hg
    exact (hf.block g hlt (hv g (by rw [hv']; rfl))).trans hg
end

/-- what has become of an object: its blocks are elder ones or new -/
def Stp (S S' : List Nat) (w w' : World) : Prop := Fr S w w' ∧ ∀ b ∈ S', b ∈ S ∨ w.heap.size ≤ b
theorem Stp.fr {S S' : List Nat} {w w' : World} (h : Stp S S' w w') : Fr S w w' := h.1
theorem Stp.out {S S' : List Nat} {w w' : World} (h : Stp S S' w w') {b : Nat} (hb : b < w.heap.size) (hn : b ∉ S) : b ∉ S' := fun hm => (h.2 b hm).elim hn fun hge => by omega
theorem Stp.ge {S S' : List Nat} {w w' : World} (h : Stp S S' w w') {B : Nat} (hS : ∀ b ∈ S, B ≤ b) (hB : B ≤ w.heap.size) : ∀ b ∈ S', B ≤ b := fun b hm => (h.2 b hm).elim (hS b) fun hge => by omega

/-! ### A row of cells that a slice owns -/
theorem row_cell {w : World} {base : Nat} {e : TypeId} {size n cap g : Nat} {xs : List Value} (h : w.ownsRow base e size (.slice (some ⟨g, 0, none⟩) n cap) n xs) {i : Nat} {u : Value} (hu : xs[i]? = some u) : w.cell? ⟨g, i, none⟩ = some u := by
  have := h.cells (g := g) rfl i u hu
  unfold Addr.add at this
  by_cases hi : i = 0
  · subst hi; simpa using this
  · simpa [hi] using this
theorem row_blk {w : World} {base : Nat} {e : TypeId} {size n cap g : Nat} {xs : List Value} (h : w.ownsRow base e size (.slice (some ⟨g, 0, none⟩) n cap) n xs) : ∃ cur, Blk w g e cur ∧ base ≤ g ∧ n ≤ cap ∧ cap ≤ maxLen ∧ cur.size = cap * size ∧ cur.toList.take (n * size) = xs := by
  rcases h.2 with ⟨h0, _⟩ | ⟨g', cap', cur, hv, hb, hg, h1, h2, h3, h4⟩
  · cases h0
  · injection hv with ha _ hc
    injection ha with ha
    injection ha with ha _
    subst ha; subst hc
    exact ⟨cur, hg, hb, h1, h2, h3, h4⟩
theorem row_mk {w : World} {base : Nat} {e : TypeId} {size n cap g : Nat} {cur : Array Value} {xs : List Value} (hg : Blk w g e cur) (hb : base ≤ g) (hc : n ≤ cap) (hm : cap ≤ maxLen) (hs : cur.size = cap * size) (ht : cur.toList.take (n * size) = xs) :
    w.ownsRow base e size (.slice (some ⟨g, 0, none⟩) n cap) n xs :=
  ⟨by rw [← ht, List.length_take, Array.length_toList, hs, Nat.min_eq_left (Nat.mul_le_mul_right _ hc)], .inr ⟨g, cap, cur, rfl, hb, hg, hc, hm, hs, ht⟩⟩
/-- what a row's value looks like -/
theorem row_form {w : World} {base : Nat} {e : TypeId} {size n : Nat} {v : Value} {xs : List Value} (h : w.ownsRow base e size v n xs) :
    (v = .slice none 0 0 ∧ n = 0 ∧ xs = []) ∨ ∃ g cap, v = .slice (some ⟨g, 0, none⟩) n cap ∧ base ≤ g ∧ g < w.heap.size ∧ n ≤ cap ∧ cap ≤ maxLen := by
  rcases h.2 with ⟨h0, hn⟩ | ⟨g, cap, cur, hv, hb, hg, h1, h2, h3, h4⟩
  · left
    refine ⟨h0, hn, List.eq_nil_of_length_eq_zero ?_⟩
    rw [h.1, hn, Nat.zero_mul]
  · exact .inr ⟨g, cap, hv, hb, Blk.lt (t := e) (cs := cur) hg, h1, h2⟩
/-- a store into a row -/
theorem row_store {w : World} {base : Nat} {e : TypeId} {size n cap g : Nat} {xs : List Value} (h : w.ownsRow base e size (.slice (some ⟨g, 0, none⟩) n cap) n xs) (i : Nat) (hi : i < n * size) (u : Value) :
    (w.setCell ⟨g, i, none⟩ u).ownsRow base e size (.slice (some ⟨g, 0, none⟩) n cap) n (xs.set i u) := by
  obtain ⟨cur, hg, hb, h1, h2, h3, h4⟩ := row_blk h
  refine row_mk (hg.set_ i u) hb h1 h2 (by simpa using h3) ?_
  rw [Array.toList_setIfInBounds, ← h4, List.take_set]
/-- another block is written -/
theorem row_far {w : World} {base : Nat} {e : TypeId} {size n : Nat} {v : Value} {xs : List Value} (h : w.ownsRow base e size v n xs) {p : Addr} (hp : v.ownBlock ≠ some p.block) (u : Value) : (w.setCell p u).ownsRow base e size v n xs := by
  refine ⟨h.1, ?_⟩
  rcases h.2 with h0 | ⟨g, cap, cur, hv, hb, hg, h1, h2, h3, h4⟩
  · exact .inl h0
  · refine .inr ⟨g, cap, cur, hv, hb, ?_, h1, h2, h3, h4⟩
    exact Blk.far (t := e) (cs := cur) hg (fun he => hp (by rw [hv, ← he]; rfl)) u
/-- a row cut at its end -/
theorem row_cut {w : World} {base : Nat} {e : TypeId} {size n cap g k : Nat} {xs : List Value} (h : w.ownsRow base e size (.slice (some ⟨g, 0, none⟩) n cap) n xs) (hk : k ≤ n) :
    w.ownsRow base e size (.slice (some ⟨g, 0, none⟩) k cap) k (xs.take (k * size)) := by
  obtain ⟨cur, hg, hb, h1, h2, h3, h4⟩ := row_blk h
  refine row_mk hg hb (by omega) h2 h3 ?_
  rw [← h4, List.take_take, Nat.min_eq_left (Nat.mul_le_mul_right _ hk)]
theorem row_len {w : World} {base : Nat} {e : TypeId} {size n : Nat} {v : Value} {xs : List Value} (h : w.ownsRow base e size v n xs) : xs.length = n * size := h.1
/-- rows of different element types lie in different blocks -/
theorem row_blk_ne {w : World} {base : Nat} {e : TypeId} {size n : Nat} {v : Value} {xs : List Value} {g : Nat} {t : TypeId} {cs : Array Value} (h : w.ownsRow base e size v n xs) (hg : Blk w g t cs) (hne : e ≠ t) : v.ownBlock ≠ some g := by
  rcases h.2 with ⟨rfl, _⟩ | ⟨g', cap, cur, rfl, _, hh, _⟩
  · simp [Value.ownBlock]
  · intro he
    have : g' = g := by simpa [Value.ownBlock] using he
    subst this
    exact Blk.ne_ (t := e) hh hg hne rfl
theorem row_row_ne {w : World} {base base' : Nat} {e e' : TypeId} {size size' n n' : Nat} {v v' : Value} {xs xs' : List Value} (h : w.ownsRow base e size v n xs) (h' : w.ownsRow base' e' size' v' n' xs') (hne : e ≠ e') : ∀ k, v.ownBlock = some k → v'.ownBlock ≠ some k := by
  intro k hk
  rcases h.2 with ⟨rfl, _⟩ | ⟨g, cap, cur, rfl, _, hh, _⟩
  · simp [Value.ownBlock] at hk
  · have : g = k := by simpa [Value.ownBlock] using hk
    subst this
    exact row_blk_ne h' (t := e) (cs := cur) hh (Ne.symm hne)
theorem row_lt {w : World} {base : Nat} {e : TypeId} {size n : Nat} {v : Value} {xs : List Value} (h : w.ownsRow base e size v n xs) {k : Nat} (hk : v.ownBlock = some k) : k < w.heap.size ∧ base ≤ k := by
  rcases row_form h with ⟨rfl, _⟩ | ⟨g, cap, rfl, hb, hl, _⟩
  · simp [Value.ownBlock] at hk
  · have : g = k := by simpa [Value.ownBlock] using hk
    subst this
    exact ⟨hl, hb⟩

/-! ### Lists of elements of several cells -/
section
variable {α : Type} {f : α → List Value} {k : Nat}
theorem flat_len (hk : ∀ x, (f x).length = k) (xs : List α) : (xs.flatMap f).length = xs.length * k := by
  induction xs with
  | nil => simp
  | cons x xs ih => rw [List.flatMap_cons, List.length_append, ih, hk, List.length_cons, Nat.add_mul]; omega
theorem flat_get (hk : ∀ x, (f x).length = k) {xs : List α} {i : Nat} {x : α} (hx : xs[i]? = some x) (j : Nat) (hj : j < k) : (xs.flatMap f)[i * k + j]? = (f x)[j]? := by
  induction xs generalizing i with
  | nil => simp at hx
  | cons y xs ih =>
    rw [List.flatMap_cons]
    cases i with
    | zero =>
      simp only [List.getElem?_cons_zero, Option.some.injEq] at hx
      subst hx
      rw [Nat.zero_mul, Nat.zero_add, List.getElem?_append_left (by rw [hk]; exact hj)]
    | succ i =>
      simp only [List.getElem?_cons_succ] at hx
      rw [List.getElem?_append_right (by rw [hk, Nat.add_mul]; omega), hk, ← ih hx]
      congr 1
      rw [Nat.add_mul]; omega
theorem flat_set (hk : ∀ x, (f x).length = k) {xs : List α} {i : Nat} {x x' : α} (hx : xs[i]? = some x) (j : Nat) (hj : j < k) (u : Value) (hu : (f x).set j u = f x') : (xs.flatMap f).set (i * k + j) u = (xs.set i x').flatMap f := by
  induction xs generalizing i with
  | nil => simp at hx
  | cons y xs ih =>
    cases i with
    | zero =>
      simp only [List.getElem?_cons_zero, Option.some.injEq] at hx
      subst hx
      rw [List.flatMap_cons, Nat.zero_mul, Nat.zero_add, List.set_append_left _ _ (by rw [hk]; exact hj), hu, List.set_cons_zero, List.flatMap_cons]
    | succ i =>
      simp only [List.getElem?_cons_succ] at hx
      rw [List.flatMap_cons, List.set_append_right _ _ (by rw [hk, Nat.add_mul]; omega), hk, List.set_cons_succ, List.flatMap_cons, ← ih hx]
      congr 2
      rw [Nat.add_mul]; omega
theorem flat_take (hk : ∀ x, (f x).length = k) (xs : List α) (n : Nat) : (xs.flatMap f).take (n * k) = (xs.take n).flatMap f := by
  induction xs generalizing n with
  | nil => simp
  | cons x xs ih =>
    cases n with
    | zero => simp
    | succ n =>
      rw [List.flatMap_cons, List.take_succ_cons, List.flatMap_cons, ← ih, Nat.add_mul, Nat.one_mul, Nat.add_comm (n * k) k, ← hk x, List.take_length_add_append]
theorem flat_one (xs : List α) (g : α → Value) : xs.flatMap (fun x => [g x]) = xs.map g := by
  induction xs with
  | nil => rfl
  | cons x xs ih => rw [List.flatMap_cons, ih]; rfl
end

/-! ### make -/
theorem madeCells_flat (z : Array Value) (hz : 0 < z.size) (n : Nat) : (madeCells z (n * z.size)).toList = (List.replicate n ()).flatMap (fun _ => z.toList) := by
  apply List.ext_getElem?
  intro k
  have hl : ∀ x : Unit, ((fun _ => z.toList) x).length = z.size := fun _ => by simp
  by_cases hk : k < n * z.size
  · have hd : k / z.size < n := (Nat.div_lt_iff_lt_mul hz).2 hk
    have hm : k % z.size < z.size := Nat.mod_lt _ hz
    have h1 := flat_get (f := fun _ : Unit => z.toList) hl (xs := List.replicate n ()) (i := k / z.size) (x := ()) (by simp [hd]) (k % z.size) hm
    rw [Nat.div_add_mod'] at h1
    rw [h1]
    unfold madeCells
    simp [hk, hm]
  · rw [List.getElem?_eq_none (by simp [madeCells]; omega), List.getElem?_eq_none (by rw [flat_len hl]; simp; omega)]
theorem run_make_rowN {P : Program} (t e : TypeId) (i : TypeInfo) (z : Value) (ht : P.underlying t = some (.slice e)) (hi : P.info? e = some i) (hz : i.zero = some z)
    (kl kc : IntKind) (n c : Nat) (hnc : n ≤ c) (hbytes : i.bytes * c ≤ 281474976710656) (h63 : c ≤ 9223372036854775807) (w : World) :
    (Instr.makeSlice t (.int kl (n : Int)) (.int kc (c : Int))).run P w = .ok (.slice (some ⟨w.heap.size, 0, none⟩) n c) (w.alloc (.cells (madeCells z.cells (c * i.size)) e)) := by
  have hb : (i.bytes : Int) * (c : Int) ≤ 281474976710656 := by
    have h : ((i.bytes * c : Nat) : Int) ≤ 281474976710656 := by omega
    rwa [Int.natCast_mul] at h
  have hr := run_make (P := P) w t e i z ht hi hz kl kc n c (by omega) (by omega) hb (by omega)
  simp only [Int.toNat_natCast] at hr
  exact hr
/-- what 'make' of n elements made: a row of n times the zero value's cells -/
theorem row_made {w : World} {B : Nat} {e : TypeId} {z : Array Value} {n : Nat} (hB : B ≤ w.heap.size) (hz : 0 < z.size) (hm : n ≤ maxLen) :
    (w.alloc (.cells (madeCells z (n * z.size)) e)).ownsRow B e z.size (.slice (some ⟨w.heap.size, 0, none⟩) n n) n ((List.replicate n ()).flatMap (fun _ => z.toList)) :=
  row_mk (Blk.new w e _) hB (Nat.le_refl _) hm (by simp [madeCells]) (by rw [← madeCells_flat z hz n, List.take_of_length_le (by simp [madeCells])])

theorem ret_eq {v v' : Value} (h : v = v') : Ending.returned v = .returned v' := by rw [h]
theorem int_eq {k : IntKind} {a b : Int} (h : a = b) : Value.int k a = .int k b := by rw [h]
theorem bool_eq {a b : Bool} (h : a = b) : Value.bool a = .bool b := by rw [h]
end Go.Proofs.YtioeafjlbdpjoaaDoor

/- Rows of one-cell elements that a slice owns and that may begin behind their block's first cell. -/
import Derived.Test.YtioeafjlbdpjoaaDoorLib
import Derived.Deep.AppendSrc
namespace Go.Proofs.YtioeafjlbdpjoaaDoor
open Go.RowKit

def RowO (w : World) (B : Nat) (e : TypeId) (v : Value) (n : Nat) (xs : List Value) : Prop :=
  xs.length = n ∧ ((v = .slice none 0 0 ∧ n = 0) ∨ ∃ g o cap cur, v = .slice (some ⟨g, o, none⟩) n cap ∧ B ≤ g ∧ Blk w g e cur ∧ n ≤ cap ∧ cap ≤ maxLen ∧ o + cap ≤ cur.size ∧ (cur.toList.drop o).take n = xs)
section
variable {w w' : World} {B : Nat} {e : TypeId} {v : Value} {n : Nat} {xs : List Value}
theorem RowO.nil (w : World) (B : Nat) (e : TypeId) : RowO w B e (.slice none 0 0) 0 [] := ⟨rfl, .inl ⟨rfl, rfl⟩⟩
theorem RowO.len (h : RowO w B e v n xs) : xs.length = n := h.1
theorem RowO.fr {S : List Nat} (h : RowO w B e v n xs) (hf : Fr S w w') (hv : ∀ k, v.ownBlock = some k → k ∉ S) : RowO w' B e v n xs := by
  refine ⟨h.1, h.2.imp id ?_⟩
  rintro ⟨g, o, cap, cur, rfl, hb, hg, h1, h2, h3, h4⟩
  exact ⟨g, o, cap, cur, rfl, hb, hg.fr hf (hv g rfl), h1, h2, h3, h4⟩
theorem RowO.fr0 (h : RowO w B e v n xs) (hf : Fr [] w w') : RowO w' B e v n xs := h.fr hf (by simp)
theorem RowO.up {B' : Nat} (h : RowO w B e v n xs) (hB : B' ≤ B) : RowO w B' e v n xs := by
  refine ⟨h.1, h.2.imp id ?_⟩
  rintro ⟨g, o, cap, cur, rfl, hb, r⟩
  exact ⟨g, o, cap, cur, rfl, by omega, r⟩
theorem RowO.form (h : RowO w B e v n xs) : (v = .slice none 0 0 ∧ n = 0 ∧ xs = []) ∨ ∃ g o cap, v = .slice (some ⟨g, o, none⟩) n cap ∧ B ≤ g ∧ g < w.heap.size ∧ n ≤ cap ∧ cap ≤ maxLen := by
  rcases h.2 with ⟨h0, hn⟩ | ⟨g, o, cap, cur, hv, hb, hg, h1, h2, _⟩
  · exact .inl ⟨h0, hn, List.eq_nil_of_length_eq_zero (by rw [h.1, hn])⟩
  · exact .inr ⟨g, o, cap, hv, hb, hg.lt, h1, h2⟩
theorem RowO.blk (h : RowO w B e v n xs) {k : Nat} (hk : v.ownBlock = some k) : ∃ cur, Blk w k e cur ∧ B ≤ k := by
  rcases h.2 with ⟨rfl, _⟩ | ⟨g, o, cap, cur, rfl, hb, hg, _⟩
  · simp [Value.ownBlock] at hk
  · have : g = k := by simpa [Value.ownBlock] using hk
    subst this
    exact ⟨cur, hg, hb⟩
theorem RowO.ne_blk {g : Nat} {t : TypeId} {cs : Array Value} (h : RowO w B e v n xs) (hg : Blk w g t cs) (hne : e ≠ t) : v.ownBlock ≠ some g := by
  intro hk
  obtain ⟨cur, hc, _⟩ := h.blk hk
  exact hc.ne_ hg hne rfl
theorem RowO.cell {g o cap : Nat} (h : RowO w B e (.slice (some ⟨g, o, none⟩) n cap) n xs) {i : Nat} {u : Value} (hu : xs[i]? = some u) : w.cell? ⟨g, o + i, none⟩ = some u := by
  rcases h.2 with ⟨h0, _⟩ | ⟨g', o', cap', cur, hv, hb, hg, h1, h2, h3, h4⟩
  · cases h0
  · injection hv with ha _ hc
    injection ha with ha
    injection ha with ha ho
    subst ha; subst hc; subst ho
    rw [← h4, List.getElem?_take] at hu
    split at hu
    · rw [List.getElem?_drop] at hu
      rw [hg.cell, ← Array.getElem?_toList, hu]
    · cases hu
theorem RowO.cut {g o cap k : Nat} (h : RowO w B e (.slice (some ⟨g, o, none⟩) n cap) n xs) (hk : k ≤ n) : RowO w B e (.slice (some ⟨g, o, none⟩) k cap) k (xs.take k) := by
  rcases h.2 with ⟨h0, _⟩ | ⟨g', o', cap', cur, hv, hb, hg, h1, h2, h3, h4⟩
  · cases h0
  · injection hv with ha _ hc
    injection ha with ha
    injection ha with ha ho
    subst ha; subst hc; subst ho
    refine ⟨by rw [List.length_take, h.1]; omega, .inr ⟨g, o, cap, cur, rfl, hb, hg, by omega, h2, h3, ?_⟩⟩
    rw [← h4, List.take_take, Nat.min_eq_left hk]
theorem RowO.tail {g o cap k : Nat} (h : RowO w B e (.slice (some ⟨g, o, none⟩) n cap) n xs) (hk : k ≤ n) : RowO w B e (.slice (some ⟨g, o + k, none⟩) (n - k) (cap - k)) (n - k) (xs.drop k) := by
  rcases h.2 with ⟨h0, _⟩ | ⟨g', o', cap', cur, hv, hb, hg, h1, h2, h3, h4⟩
  · cases h0
  · injection hv with ha _ hc
    injection ha with ha
    injection ha with ha ho
    subst ha; subst hc; subst ho
    refine ⟨by rw [List.length_drop, h.1], .inr ⟨g, o + k, cap - k, cur, rfl, hb, hg, by omega, by omega, by omega, ?_⟩⟩
    rw [← h4, List.drop_take, List.drop_drop]
/-- an empty one, wherever -/
theorem RowO.empty {g o cap : Nat} {cur : Array Value} (hb : B ≤ g) (hg : Blk w g e cur) (hc : cap ≤ maxLen) (hs : o + cap ≤ cur.size) : RowO w B e (.slice (some ⟨g, o, none⟩) 0 cap) 0 [] :=
  ⟨rfl, .inr ⟨g, o, cap, cur, rfl, hb, hg, by omega, hc, hs, by simp⟩⟩
theorem RowO.of_row (h : w.ownsRow B e 1 v n xs) : RowO w B e v n xs := by
  refine ⟨by rw [h.1, Nat.mul_one], ?_⟩
  rcases row_form h with ⟨rfl, h0, _⟩ | ⟨g, cap, rfl, _⟩
  · exact .inl ⟨rfl, h0⟩
  · obtain ⟨cur, hg, hb, h1, h2, h3, h4⟩ := row_blk h
    exact .inr ⟨g, 0, cap, cur, rfl, hb, hg, h1, h2, by omega, by simpa using h4⟩
end
section
variable {P : Program} (w : World)
/-- one element more -/
theorem run_append_rowO (t ty : TypeId) (base : Nat) (e : TypeId) (i : TypeInfo) (z : Value) (bytes : Nat) (ht : P.underlying t = some (.slice e)) (hi : P.info? e = some i) (hz : i.zero = some z)
    (hsize : i.size = 1) (hby : i.bytes = bytes) (hzs : z.cells.size = 1) (v : Value) (n : Nat) (xs : List Value) (hown : RowO w base e v n xs)
    (ad : Addr) (c : Nat) (u : Value) (hu : w.cell? ad = some u) (h1 : u.oneCell' = true)
    (h63 : n + 1 ≤ maxLen) (hbytes : (n + 1) * bytes ≤ 140737488355328) (hbase : base ≤ w.heap.size) (H : Nat) (hH : w.heap.size = H) :
    ∃ g o cap w', (Builtin.append_ #[t, t] ty #[v, .slice (some ad) 1 c]).run P w = .ok (.slice (some ⟨g, o, none⟩) (n + 1) cap) w' ∧
      RowO w' base e (.slice (some ⟨g, o, none⟩) (n + 1) cap) (n + 1) (xs ++ [u]) ∧ w.grownBy w' v.ownBlock ∧ (v.ownBlock = some g ∨ g = H) ∧ g < w'.heap.size := by
  subst hH
  subst hby
  have hsrc : Src P i.size t (.slice (some ad) 1 c) 1 [u] w := by
    refine Src.ofSlice w ht ad 1 c [u] (by rw [hsize]; rfl) (fun j x hx => ?_) (by simpa using h1)
    cases j with
    | zero =>
      simp only [List.getElem?_cons_zero, Option.some.injEq] at hx
      subst hx
      simpa [Addr.add] using hu
    | succ j => simp at hx
  have hx63 : ((n + 1 : Nat) : Int) ≤ 9223372036854775807 := by unfold maxLen at h63; omega
  have grow : ∀ (bs : Option Addr) (cap : Nat), v = .slice bs n cap → cap < n + 1 → (Builtin.firstCells i.size n (.slice bs n cap)).run P w.drew = .ok xs.toArray w.drew →
      ∃ g o cap' w', (Builtin.append_ #[t, t] ty #[v, .slice (some ad) 1 c]).run P w = .ok (.slice (some ⟨g, o, none⟩) (n + 1) cap') w' ∧
      RowO w' base e (.slice (some ⟨g, o, none⟩) (n + 1) cap') (n + 1) (xs ++ [u]) ∧ w.grownBy w' v.ownBlock ∧ (v.ownBlock = some g ∨ g = w.heap.size) ∧ g < w'.heap.size := by
    intro bs cap hv hlt hold
    have hr := run_append_grow_src (P := P) w t t ty e i z ht hi hz bs n cap xs hold _ 1 [u] hsrc hlt hx63 (growslice_fits hlt hbytes)
    have hge := grownCap_ge w (n + 1) cap e
    have hcm : grownCap w (n + 1) cap e ≤ maxLen := grownCap_le_maxLen w (n + 1) cap e h63
    rw [hv]
    refine ⟨_, _, _, _, hr, ⟨by rw [List.length_append, hown.1]; rfl, .inr ⟨_, 0, _, _, rfl, hbase, Blk.new_at _ _ _ _ rfl, hge, hcm, ?_, ?_⟩⟩, ⟨rfl, rfl, rfl, by simp, fun k hk _ => Below.heap_alloc w.drew _ k hk⟩, .inr rfl, by simp⟩
    · simp [size_zeroCells, hzs, hown.1]; omega
    · have hl : (xs ++ [u]).length = n + 1 := by rw [List.length_append, hown.1]; rfl
      rw [List.drop_zero, Array.toList_append, List.toList_toArray, ← hl]
      exact List.take_left
  rcases hown.2 with ⟨hv, h0⟩ | ⟨g, o, cap, cur, hv, hbg, hg, hnc, hcm, hcs, htake⟩
  · have hx : xs = [] := List.eq_nil_of_length_eq_zero (by rw [hown.1, h0])
    refine grow none 0 (by rw [hv, h0]) (by omega) ?_
    rw [h0, hx]
    simp [Builtin.firstCells, loadCells, loadCellsFrom]
  · by_cases hroom : n + 1 ≤ cap
    · have hlt : o + n < cur.size := by omega
      have hr := run_append_room_src (P := P) w t t ty e i ht hi g o n cap _ 1 [u] hsrc hroom (fun j hj => by
        have : j = 0 := by simpa using hj
        subst this
        rw [hg.cell, hsize]; simp; omega) (fun j _ => hg.frozen _)
      rw [hsize, Nat.mul_one] at hr
      have hset : w.setCells g (o + n) [u] = w.setCell ⟨g, o + n, none⟩ u := rfl
      rw [hset] at hr
      have hfr : Fr [g] w (w.setCell ⟨g, o + n, none⟩ u) := (Fr.refl _ w).setCell (by simp) _
      rw [hv]
      refine ⟨_, _, _, _, hr, ⟨by rw [List.length_append, hown.1]; rfl, .inr ⟨g, o, cap, _, rfl, hbg, hg.set_ (o + n) u, hroom, hcm, by simpa using hcs, ?_⟩⟩, ⟨hfr.os, hfr.tape, hfr.output, hfr.size, fun k hk hne => hfr.block k hk (by simpa using fun e => hne (by rw [e]; rfl))⟩, .inl rfl, Nat.lt_of_lt_of_le hg.lt hfr.size⟩
      rw [Array.toList_setIfInBounds, List.drop_set, if_neg (by omega), show o + n - o = n from by omega]
      have hl : n < (cur.toList.drop o).length := by rw [List.length_drop, Array.length_toList]; omega
      rw [List.take_add_one, List.getElem?_set_self hl, List.take_set_of_le (Nat.le_refl n), htake]
      rfl
    · refine grow (some ⟨g, o, none⟩) cap hv (by omega) ?_
      refine run_firstCells_some w.drew i.size n ⟨g, o, none⟩ n cap xs (by rw [hsize, hown.1, Nat.mul_one]) (fun j x hx => ?_)
      rw [Addr.add_lit]
      have h2 := hown
      rw [hv] at h2
      exact h2.cell hx
end
section
variable {P : Program}
theorem wpList_append_rowO {w : World} {ops : Array Oper} {rest : List Oper} {o : Oper} {a : Act} {Q : Exit → Act → World → Prop} (hgd : o.guard = none) (s x : Operand) (t : TypeId)
    (ho : o.op = .call { callee := .builtin .append, args := #[s, x], argTypes := #[t, t] })
    (base : Nat) (e : TypeId) (i : TypeInfo) (z : Value) (bytes : Nat) (ht : P.underlying t = some (.slice e)) (hi : P.info? e = some i) (hz : i.zero = some z)
    (hsize : i.size = 1) (hby : i.bytes = bytes) (hzs : z.cells.size = 1)
    (v : Value) (n : Nat) (xs : List Value) (hs : a.eval s = v) (hown : RowO w base e v n xs)
    (ad : Addr) (c : Nat) (u : Value) (hx : a.eval x = .slice (some ad) 1 c) (hu : w.cell? ad = some u) (h1 : u.oneCell' = true)
    (h63 : n + 1 ≤ maxLen) (hbytes : (n + 1) * bytes ≤ 140737488355328) (hbase : base ≤ w.heap.size) (H : Nat) (hH : w.heap.size = H)
    (h : ∀ g o' cap w', RowO w' base e (.slice (some ⟨g, o', none⟩) (n + 1) cap) (n + 1) (xs ++ [u]) → w.grownBy w' v.ownBlock → (v.ownBlock = some g ∨ g = H) → g < w'.heap.size → wpList P ops Q rest (a.put o.dst (.slice (some ⟨g, o', none⟩) (n + 1) cap)) w') : wpList P ops Q (o :: rest) a w := by
  obtain ⟨g, o', cap, w', hr, h2, h3, h4, h5⟩ := run_append_rowO (P := P) w t o.type base e i z bytes ht hi hz hsize hby hzs v n xs hown ad c u hu h1 h63 hbytes hbase H hH
  refine wpList_plain hgd fun _ hK => ?_
  unfold Oper.wp execOp
  simp only [ho, resolve, invoke, builtin, Sem.run_bind, Sem.run_pure, Result.andThen_ok, List.map_toArray, List.map_cons, List.map_nil, hs, hx, hr]
  exact hK _ _ (h g o' cap w' h2 h3 h4 h5)
end
end Go.Proofs.YtioeafjlbdpjoaaDoor

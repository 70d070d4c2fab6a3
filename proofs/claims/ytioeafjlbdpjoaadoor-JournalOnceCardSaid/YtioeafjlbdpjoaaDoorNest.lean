/- Slices within a slice: an element's cells read as the list of its own elements. -/
import Derived.Test.YtioeafjlbdpjoaaDoorLeaf
namespace Go.Proofs.YtioeafjlbdpjoaaDoor
open Go.ChangeShapes Go.WideShapes Go.ChangeAt Go.RowKit Go.Deep
section
variable {H : Type} {enc : TypeId × Value → H} {W : World} {base : Nat} {spare : Nat → Bool} {held : Bool}
set_option maxRecDepth 100000 in
theorem open_listT {α : Type} {t e : TypeId} {k : Nat} (f : α → List Value) (ok : α → Prop) (hf : ∀ m, (f m).length = k) (ht : Tryd.prog.underlying t = some (.slice e)) (hC : Tryd.prog.cellsOf e = k) (hk : 0 < k)
    (hel : ∀ (n : Nat) (cs : List Value) (x : DataW H × List MemPlace), DataW.trod enc Tryd.prog W base spare held n e cs = some x → ∃ m, cs = f m ∧ ok m) {fuel : Nat} {cs : List Value} {x : DataW H × List MemPlace}
    (h : DataW.trod enc Tryd.prog W base spare held fuel t cs = some x) :
    ∃ (A : Option Addr) (n c : Nat) (l : List α), cs = [.slice A n c] ∧ l.length = n ∧ (n ≤ maxLen ∧ n ≤ c) ∧ (∀ m ∈ l, ok m) ∧ Reads W W.heap.size k A n (l.flatMap f) := by
  rcases open_slice ht h with ⟨h0, _⟩ | ⟨a, n, c, m, n', D, Pl, hcs, hb, hl, hm, hmm, hx, hi⟩
  · exact ⟨none, 0, 0, [], h0, rfl, ⟨by simp [maxLen], by simp⟩, by simp, by simp, fun h => by omega⟩
  · skip
    have hlm : n ≤ m := by rw [hmm]; split <;> omega
    have step : ∀ q, q ≤ n → ∃ l : List α, l.length = q ∧ ∀ i y, l[i]? = some y → ok y ∧ ∀ j u, (f y)[j]? = some u → W.cell? (a.add (i * k + j)) = some u := by
      intro q
      induction q with
      | zero => exact fun _ => ⟨[], rfl, by simp⟩
      | succ q ih =>
        intro hq
        obtain ⟨l, hl1, hl2⟩ := ih (by omega)
        obtain ⟨cs', hc, ht'⟩ := hi q (by omega)
        rw [hC] at hc
        obtain ⟨y, rfl, hy⟩ := hel _ _ _ ht'
        obtain ⟨_, hcl, hat⟩ := World.cells?_some hc
        refine ⟨l ++ [y], by simp [hl1], fun i z hz => ?_⟩
        rcases Nat.lt_or_ge i q with hlt | hge
        · rw [List.getElem?_append_left (by omega)] at hz
          exact hl2 i z hz
        · rw [List.getElem?_append_right (by omega), hl1] at hz
          have hiq : i = q := by
            have := (List.getElem?_eq_some_iff.1 hz).1
            simp at this
            omega
          subst hiq
          simp only [Nat.sub_self, List.getElem?_cons_zero, Option.some.injEq] at hz
          subst hz
          refine ⟨hy, fun j u hu => ?_⟩
          have hj : j < k := by rw [← hf y]; exact (List.getElem?_eq_some_iff.1 hu).1
          rw [← Go.Deep.add_add, hat j hj, hu]
    obtain ⟨l, hl1, hl2⟩ := step n (Nat.le_refl _)
    refine ⟨some a, n, c, l, hcs, hl1, ⟨by omega, hl⟩, fun y hy => ?_, by rw [flat_len hf, hl1], fun hn => ?_⟩
    · obtain ⟨i, hi'⟩ := List.getElem?_of_mem hy
      exact (hl2 i y hi').1
    · have key : ∀ j u, (l.flatMap f)[j]? = some u → W.cell? (a.add j) = some u := by
        intro j u hu
        have hjl : j < n * k := by
          have := (List.getElem?_eq_some_iff.1 hu).1
          rwa [flat_len hf, hl1] at this
        have hd : j / k < n := (Nat.div_lt_iff_lt_mul hk).2 hjl
        have hm' : j % k < k := Nat.mod_lt _ hk
        have hy : l[j / k]? = some (l[j / k]'(by omega)) := by simp
        have h1 := flat_get hf hy (j % k) hm'
        rw [Nat.div_add_mod'] at h1
        have := (hl2 _ _ hy).2 (j % k) u (h1.symm.trans hu)
        rwa [Nat.div_add_mod'] at this
      obtain ⟨u, hu⟩ : ∃ u, (l.flatMap f)[0]? = some u := by
        have : 0 < (l.flatMap f).length := by rw [flat_len hf, hl1]; exact Nat.mul_pos hn hk
        exact ⟨(l.flatMap f)[0], by simp⟩
      have h0 := key 0 u hu
      have ha := addr_lit h0 rfl
      have hlt := World.block_lt_of_cell? W _ h0
      rw [block_of_add] at hlt
      refine ⟨a.block, a.off, by rw [← ha], hlt, fun j v hv => ?_⟩
      have := key j v hv
      rw [ha, add_lit] at this
      exact this
end
end Go.Proofs.YtioeafjlbdpjoaaDoor

/- What the guards of the laws of layer 1 leave: short ways. -/
import Derived.Test.YtmjdnmpiheaidaaDoorBunch2
namespace Go.Proofs.YtmjdnmpiheaidaaDoor
open Go.RowKit
theorem joinTail_len (r : List ByteArray) (h : ∀ s ∈ r, s.size ≤ 100) : (Lib.joinTail [47] (r.map (·.data.toList))).length ≤ 101 * r.length := by
  induction r with
  | nil => simp [Lib.joinTail]
  | cons a r ih =>
    have h1 := h a (by simp)
    have h2 := ih fun s hs => h s (by simp [hs])
    have h3 : a.data.toList.length = a.size := by rw [Array.length_toList]; rfl
    unfold Lib.joinTail at h2 ⊢
    simp only [List.map_cons, List.flatten_cons, List.length_append, List.length_cons, List.length_nil]
    omega
theorem plen_le (ws : List ByteArray) (h : ∀ s ∈ ws, s.size ≤ 100) : plen ws ≤ 101 * ws.length := by
  cases ws with
  | nil => simp [plen, Lib.join_nil]
  | cons a r =>
    have h1 := h a (by simp)
    have h2 := joinTail_len r fun s hs => h s (by simp [hs])
    have h3 : a.data.toList.length = a.size := by rw [Array.length_toList]; rfl
    unfold plen
    rw [List.map_cons, Lib.join_cons, List.length_append, List.length_cons]
    omega
def SmallR (w : World) (l : List Rw) : Prop := ∀ x ∈ l, okR w w.heap.size x ∧ x.n ≤ 12 ∧ ∀ t ∈ x.l, t.whr.size ≤ 100
theorem small_bd {w : World} {l : List Rw} (h : SmallR w l) (way : List ByteArray) (hw : way.length ≤ 1) (hs : ∀ s ∈ way, s.size ≤ 100) : Bd way (allC l) := by
  intro c hc
  obtain ⟨x, hx, hc⟩ := List.mem_flatMap.mp hc
  obtain ⟨ho, h12, h100⟩ := h x hx
  have key : c.1.length ≤ 12 ∧ ∀ s ∈ c.1, s.size ≤ 100 := by
    unfold growC at hc
    split at hc
    · cases hc
    · split at hc
      · rw [List.mem_singleton] at hc
        subst hc
        have hsub : ∀ t ∈ x.l.takeWhile (fun t => !hitT t), t ∈ x.l := fun t ht => (List.takeWhile_prefix _).subset ht
        have hlen : (x.l.takeWhile fun t => !hitT t).length ≤ x.l.length := (List.takeWhile_prefix _).length_le
        refine ⟨Nat.le_trans (whs_len _) (by have := ho.1; omega), fun s hs => ?_⟩
        obtain ⟨t, ht, rfl⟩ := whs_mem hs
        exact h100 t (hsub t ht)
      · cases hc
  have h2 := plen_le (way ++ c.1) fun s hm => (List.mem_append.mp hm).elim (hs s) (key.2 s)
  rw [List.length_append] at h2
  omega
theorem neq_leaf (x : Lf) (W : World) : (binOp .neq 47 (.agg #[.string x.1, .int .i64 x.2]) (.agg #[.string x.1, .int .i64 x.2])).run Tryd.prog W = .ok (.bool false) W := by
  obtain ⟨a, i⟩ := x
  simp [go_sem]
theorem leaf_row {w : World} {B n : Nat} {v : Value} {ls : List Lf} (h : w.ownsRow B 47 2 v n (ls.flatMap encL)) : ∃ A c, v = .slice A n c := by
  rcases row_form h with ⟨rfl, h0, _⟩ | ⟨g, cap, rfl, _⟩
  · exact ⟨none, 0, by rw [h0]⟩
  · exact ⟨_, _, rfl⟩
theorem leaf_cells {w : World} {B n c : Nat} {A : Option Addr} {ls : List Lf} (h : w.ownsRow B 47 2 (.slice A n c) n (ls.flatMap encL)) {i : Nat} {x : Lf} (hx : ls[i]? = some x) (hi : i < n) :
    ∃ g, A = some ⟨g, 0, none⟩ ∧ g < w.heap.size ∧ w.cell? ⟨g, i * 2, none⟩ = some (.string x.1) ∧ w.cell? ⟨g, i * 2 + 1, none⟩ = some (.int .i64 x.2) := by
  rcases row_form h with ⟨_, h0, _⟩ | ⟨g, cap, e, _, hl, _⟩
  · omega
  · injection e with e1 e2 e3
    subst e1; subst e3
    exact ⟨g, rfl, hl, row_cell h (i := i * 2 + 0) (by rw [flat_get encL_len hx 0 (by omega)]; rfl), row_cell h (i := i * 2 + 1) (by rw [flat_get encL_len hx 1 (by omega)]; rfl)⟩
end Go.Proofs.YtmjdnmpiheaidaaDoor

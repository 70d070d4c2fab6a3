/- 'append([]T{}, row...)': a copy of a row, of no element too. -/
import Derived.Test.YtioeafjlbdpjoaaDoorAppends
namespace Go.Proofs.YtioeafjlbdpjoaaDoor
open Go.RowKit
section
variable {P : Program}
theorem run_append_copy (w : World) (t ty : TypeId) (B B0 : Nat) (e : TypeId) (i : TypeInfo) (z : Value) (size bytes : Nat) (ht : P.underlying t = some (.slice e)) (hi : P.info? e = some i) (hz : i.zero = some z)
    (hsize : i.size = size) (hby : i.bytes = bytes) (hzs : z.cells.size = size) (hsz : 0 < size) (N : Nat) (hN : Blk w N e #[]) (hBN : B ≤ N) (v : Value) (n : Nat) (xs : List Value) (hown : w.ownsRow B0 e size v n xs) (h1 : ∀ u ∈ xs, u.oneCell' = true)
    (h63 : n ≤ maxLen) (hbytes : n * bytes ≤ 140737488355328) (H : Nat) (hH : w.heap.size = H) :
    ∃ g cap w', (Builtin.append_ #[t, t] ty #[.slice (some ⟨N, 0, none⟩) 0 0, v]).run P w = .ok (.slice (some ⟨g, 0, none⟩) n cap) w' ∧ w'.ownsRow B e size (.slice (some ⟨g, 0, none⟩) n cap) n xs ∧ w.grownBy w' (some N) ∧ (g = N ∨ g = H) ∧ g < w'.heap.size := by
  have hzero : ∀ A c, n = 0 → xs = [] → v = .slice A 0 c → ∃ g cap w', (Builtin.append_ #[t, t] ty #[.slice (some ⟨N, 0, none⟩) 0 0, v]).run P w = .ok (.slice (some ⟨g, 0, none⟩) n cap) w' ∧ w'.ownsRow B e size (.slice (some ⟨g, 0, none⟩) n cap) n xs ∧ w.grownBy w' (some N) ∧ (g = N ∨ g = H) ∧ g < w'.heap.size := by
    rintro A c rfl rfl rfl
    exact ⟨N, 0, w, run_append_zero w t ty e i ht hi N A c, row_mk hN hBN (Nat.le_refl _) (by simp [maxLen]) (by simp) (by simp), ⟨rfl, rfl, rfl, Nat.le_refl _, fun _ _ _ => rfl⟩, .inl rfl, hN.lt⟩
  rcases row_form hown with ⟨rfl, h0, hx⟩ | ⟨g0, cap0, rfl, _, _, hnc, hcm⟩
  · exact hzero none 0 h0 hx rfl
  · by_cases hn : n = 0
    · exact hzero _ _ hn (List.eq_nil_of_length_eq_zero (by have := row_len hown; rw [hn] at this; simpa using this)) (by rw [hn])
    · have hrow0 : w.ownsRow B e size (.slice (some ⟨N, 0, none⟩) 0 0) 0 [] := row_mk hN hBN (Nat.le_refl _) (by simp [maxLen]) (by simp) (by simp)
      obtain ⟨g, cap, w', hr, h2, h3, h4, h5⟩ := run_append_lies (P := P) w t ty B e i z size bytes ht hi hz hsize hby hzs hsz _ 0 [] hrow0 ⟨g0, 0, none⟩ n cap0 xs (row_len hown) (row_news hown 0 (fun j v hv => by rw [Nat.zero_add]; exact hv)) h1 (by omega) (by omega) (by rw [Nat.zero_add]; exact hbytes) (Nat.le_of_lt (Nat.lt_of_le_of_lt hBN hN.lt)) H hH
      rw [Nat.zero_add] at hr h2
      rw [List.nil_append] at h2
      exact ⟨g, cap, w', hr, h2, h3, h4.imp (fun e => (Option.some.inj e).symm) id, h5⟩
theorem wp_append_copy {o : Oper} {a : Act} {w : World} {K : Act → World → Prop} {Q : Exit → Act → World → Prop} (s x : Operand) (t : TypeId) (ho : o.op = .call { callee := .builtin .append, args := #[s, x], argTypes := #[t, t] })
    (B B0 : Nat) (e : TypeId) (i : TypeInfo) (z : Value) (size bytes : Nat) (ht : P.underlying t = some (.slice e)) (hi : P.info? e = some i) (hz : i.zero = some z)
    (hsize : i.size = size) (hby : i.bytes = bytes) (hzs : z.cells.size = size) (hsz : 0 < size) (N : Nat) (hs : a.eval s = .slice (some ⟨N, 0, none⟩) 0 0) (hN : Blk w N e #[]) (hBN : B ≤ N) (v : Value) (n : Nat) (xs : List Value) (hx : a.eval x = v) (hown : w.ownsRow B0 e size v n xs) (h1 : ∀ u ∈ xs, u.oneCell' = true)
    (h63 : n ≤ maxLen) (hbytes : n * bytes ≤ 140737488355328) (H : Nat) (hH : w.heap.size = H)
    (h : ∀ g cap w', w'.ownsRow B e size (.slice (some ⟨g, 0, none⟩) n cap) n xs → w.grownBy w' (some N) → (g = N ∨ g = H) → g < w'.heap.size → K (a.put o.dst (.slice (some ⟨g, 0, none⟩) n cap)) w') : o.wp P a w K Q := by
  obtain ⟨g, cap, w', hr, h2, h3, h4, h5⟩ := run_append_copy (P := P) w t o.type B B0 e i z size bytes ht hi hz hsize hby hzs hsz N hN hBN v n xs hown h1 h63 hbytes H hH
  unfold Oper.wp execOp
  simp only [ho, resolve, invoke, builtin, Sem.run_bind, Sem.run_pure, Result.andThen_ok, List.map_toArray, List.map_cons, List.map_nil, hs, hx, hr]
  exact h g cap w' h2 h3 h4 h5
theorem wpList_append_copy {ops : Array Oper} {rest : List Oper} {o : Oper} {a : Act} {w : World} {Q : Exit → Act → World → Prop} (hgd : o.guard = none) (s x : Operand) (t : TypeId) (ho : o.op = .call { callee := .builtin .append, args := #[s, x], argTypes := #[t, t] })
    (B B0 : Nat) (e : TypeId) (i : TypeInfo) (z : Value) (size bytes : Nat) (ht : P.underlying t = some (.slice e)) (hi : P.info? e = some i) (hz : i.zero = some z)
    (hsize : i.size = size) (hby : i.bytes = bytes) (hzs : z.cells.size = size) (hsz : 0 < size) (N : Nat) (hs : a.eval s = .slice (some ⟨N, 0, none⟩) 0 0) (hN : Blk w N e #[]) (hBN : B ≤ N) (v : Value) (n : Nat) (xs : List Value) (hx : a.eval x = v) (hown : w.ownsRow B0 e size v n xs) (h1 : ∀ u ∈ xs, u.oneCell' = true)
    (h63 : n ≤ maxLen) (hbytes : n * bytes ≤ 140737488355328) (H : Nat) (hH : w.heap.size = H)
    (h : ∀ g cap w', w'.ownsRow B e size (.slice (some ⟨g, 0, none⟩) n cap) n xs → w.grownBy w' (some N) → (g = N ∨ g = H) → g < w'.heap.size → wpList P ops Q rest (a.put o.dst (.slice (some ⟨g, 0, none⟩) n cap)) w') : wpList P ops Q (o :: rest) a w :=
  wpList_plain hgd fun _ hK => wp_append_copy s x t ho B B0 e i z size bytes ht hi hz hsize hby hzs hsz N hs hN hBN v n xs hx hown h1 h63 hbytes H hH fun g cap w' h2 h3 h4 h5 => hK _ _ (h g cap w' h2 h3 h4 h5)
theorem step_append_copy {ops : Array Oper} {o : Oper} {a : Act} {w : World} {K : Act → World → Prop} {Q : Exit → Act → World → Prop} {E : Prop} (hgd : o.guard = none) (s x : Operand) (t : TypeId) (ho : o.op = .call { callee := .builtin .append, args := #[s, x], argTypes := #[t, t] })
    (B B0 : Nat) (e : TypeId) (i : TypeInfo) (z : Value) (size bytes : Nat) (ht : P.underlying t = some (.slice e)) (hi : P.info? e = some i) (hz : i.zero = some z)
    (hsize : i.size = size) (hby : i.bytes = bytes) (hzs : z.cells.size = size) (hsz : 0 < size) (N : Nat) (hs : a.eval s = .slice (some ⟨N, 0, none⟩) 0 0) (hN : Blk w N e #[]) (hBN : B ≤ N) (v : Value) (n : Nat) (xs : List Value) (hx : a.eval x = v) (hown : w.ownsRow B0 e size v n xs) (h1 : ∀ u ∈ xs, u.oneCell' = true)
    (h63 : n ≤ maxLen) (hbytes : n * bytes ≤ 140737488355328) (H : Nat) (hH : w.heap.size = H)
    (h : ∀ g cap w', w'.ownsRow B e size (.slice (some ⟨g, 0, none⟩) n cap) n xs → w.grownBy w' (some N) → (g = N ∨ g = H) → g < w'.heap.size → K (a.put o.dst (.slice (some ⟨g, 0, none⟩) n cap)) w') :
    if Region.wanted o (yielded ops a.tmps) = true then Oper.wp P o a w K Q else E := by
  have hw : Region.wanted o (yielded ops a.tmps) = true := by simp [Region.wanted, hgd]
  rw [if_pos hw]
  exact wp_append_copy s x t ho B B0 e i z size bytes ht hi hz hsize hby hzs hsz N hs hN hBN v n xs hx hown h1 h63 hbytes H hH h
end
end Go.Proofs.YtioeafjlbdpjoaaDoor

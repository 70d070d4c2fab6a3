/- The reference's badges by contracts: New, Entity, ID, add, Drop, List. -/
import Derived.Test.YtpipgkglacmoeaaDoorRefBP
import Derived.Test.YtpipgkglacmoeaaDoorBadgeN
namespace Go.Proofs.YtpipgkglacmoeaaDoor
open Go.RowKit

def encP3 (p : Int × Ent) : List Value := [.int .i64 p.1, .int .i64 p.2.1, .int .i64 p.2.2]
theorem encP3_len : ∀ p, (encP3 p).length = 3 := fun _ => rfl
theorem infoPair : (Tryd.prog.info? 77).map (fun i => (i.zero, i.size, i.bytes)) = some (some (.agg #[.int .i64 0, .int .i64 0, .int .i64 0]), 3, 24) := by kernel_rfl
def RR (B : Nat) (w : World) (g : Nat) (ls : List (Int × Ent)) (nx : Int) (S : List Nat) : Prop :=
  ∃ vs, Blk w g 61 #[vs, .int .i64 nx] ∧ w.ownsRow B 77 3 vs ls.length (ls.flatMap encP3) ∧ B ≤ g ∧ S = g :: vs.ownBlock.toList
section
variable {B : Nat} {w w' : World} {g : Nat} {ls : List (Int × Ent)} {nx : Int} {S T : List Nat}
theorem RR.fr (h : RR B w g ls nx S) (hf : Fr T w w') (hT : ∀ b ∈ S, b ∉ T) : RR B w' g ls nx S := by
  obtain ⟨vs, h1, h2, h3, rfl⟩ := h
  exact ⟨vs, h1.fr hf (hT _ (by simp)), row_fr h2 hf (fun k hk => hT k (by simp [hk])), h3, rfl⟩
theorem RR.fr0 (h : RR B w g ls nx S) (hf : Fr [] w w') : RR B w' g ls nx S := h.fr hf (by simp)
theorem RR.ge (h : RR B w g ls nx S) : ∀ b ∈ S, B ≤ b ∧ b < w.heap.size := by
  obtain ⟨vs, h1, h2, h3, rfl⟩ := h
  intro b hb
  simp only [List.mem_cons, Option.mem_toList] at hb
  rcases hb with rfl | hb
  · exact ⟨h3, h1.lt⟩
  · have := row_lt h2 hb; exact ⟨this.2, this.1⟩
theorem RR.up {B' : Nat} (h : RR B w g ls nx S) (hB : B' ≤ B) : RR B' w g ls nx S := by
  obtain ⟨vs, h1, h2, h3, rfl⟩ := h
  refine ⟨vs, h1, ⟨h2.1, ?_⟩, by omega, rfl⟩
  rcases h2.2 with h0 | ⟨k, cap, cur, hv, hb, hg, q1, q2, q3, q4⟩
  · exact .inl h0
  · exact .inr ⟨k, cap, cur, hv, by omega, hg, q1, q2, q3, q4⟩
/-- what a look at a row of pairs sees -/
theorem RR.see (h : RR B w g ls nx S) : ∃ A c, w.cell? ⟨g, 0, none⟩ = some (.slice A ls.length c) ∧ w.cell? ⟨g, 1, none⟩ = some (.int .i64 nx) ∧ g < w.heap.size ∧ (∀ i, w.frozen? ⟨g, i, none⟩ = false) ∧
    ∀ k x, ls[k]? = some x → ∃ b, A = some ⟨b, 0, none⟩ ∧ b < w.heap.size ∧ w.cell? ⟨b, k * 3, none⟩ = some (.int .i64 x.1) ∧ w.cell? ⟨b, k * 3 + 1, none⟩ = some (.int .i64 x.2.1) ∧ w.cell? ⟨b, k * 3 + 2, none⟩ = some (.int .i64 x.2.2) := by
  obtain ⟨vs, h1, h2, h3, rfl⟩ := h
  rcases row_form h2 with ⟨rfl, h0, -⟩ | ⟨b, cap, rfl, -, hl, -, -⟩
  · refine ⟨none, 0, ?_, h1.at_ 1 rfl, h1.lt, h1.frozen, fun k x hx => ?_⟩
    · rw [h0]; exact h1.at_ 0 rfl
    · rw [List.eq_nil_of_length_eq_zero h0] at hx; simp at hx
  · refine ⟨_, cap, h1.at_ 0 rfl, h1.at_ 1 rfl, h1.lt, h1.frozen, fun k x hx => ⟨b, rfl, hl, ?_, ?_, ?_⟩⟩
    · have := row_cell h2 (flat_get encP3_len hx 0 (by omega)); rw [Nat.add_zero] at this; exact this
    · exact row_cell h2 (flat_get encP3_len hx 1 (by omega))
    · exact row_cell h2 (flat_get encP3_len hx 2 (by omega))
end
set_option maxRecDepth 100000 in
theorem rnew_calls {w : World} : Calls Tryd.prog 19 #[] w fun e w' => ∃ g S, e = .returned (.pointer (some ⟨g, 0, none⟩)) ∧ RR w.heap.size w' g [] 1 S ∧ Fr [] w w' := by
  go_enter Tryd.func19, Tryd.ntmps19
  go_wp2_with fail
  go_ret
  exact ⟨_, _, rfl, ⟨.slice none 0 0, Blk.new w _ _, World.ownsRow_nil _ _ _ _, Nat.le_refl _, rfl⟩, (Fr.refl [] w).alloc _⟩
theorem own_cons (x : Int × Ent) (r : List (Int × Ent)) (id : Int) : ownOf (x :: r) id = if x.1 = id then some x.2 else ownOf r id := by
  unfold ownOf
  rw [List.find?_cons]
  by_cases h : x.1 = id
  · rw [if_pos h, beq_iff_eq.mpr h]; rfl
  · rw [if_neg h, beq_eq_false_iff_ne.mpr h]
theorem own_at {ls : List (Int × Ent)} {id : Int} {k : Nat} {x : Int × Ent} (hx : ls[k]? = some x) (he : x.1 = id) (hp : ∀ j y, j < k → ls[j]? = some y → y.1 ≠ id) : ownOf ls id = some x.2 := by
  induction ls generalizing k with
  | nil => simp at hx
  | cons y r ih =>
    rw [own_cons]
    cases k with
    | zero =>
      simp only [List.getElem?_cons_zero, Option.some.injEq] at hx
      subst hx; rw [if_pos he]
    | succ k =>
      rw [if_neg (hp 0 y (by omega) rfl)]
      exact ih (by simpa using hx) fun j z hj hz => hp (j + 1) z (by omega) (by simpa using hz)
theorem own_no {ls : List (Int × Ent)} {id : Int} (hp : ∀ (j : Nat) (y : Int × Ent), ls[j]? = some y → y.1 ≠ id) : ownOf ls id = none :=
  own_none_of fun hm => by
    obtain ⟨p, hpm, he⟩ := List.mem_map.mp hm
    obtain ⟨j, hj⟩ := List.getElem?_of_mem hpm
    exact hp j p hj he
theorem id_cons (x : Int × Ent) (r : List (Int × Ent)) (e : Ent) : idOf (x :: r) e = if x.2 = e then some x.1 else idOf r e := by
  unfold idOf
  rw [List.find?_cons]
  by_cases h : x.2 = e
  · rw [if_pos h, beq_iff_eq.mpr h]; rfl
  · rw [if_neg h, beq_eq_false_iff_ne.mpr h]
theorem id_at {ls : List (Int × Ent)} {e : Ent} {k : Nat} {x : Int × Ent} (hx : ls[k]? = some x) (he : x.2 = e) (hp : ∀ j y, j < k → ls[j]? = some y → y.2 ≠ e) : idOf ls e = some x.1 := by
  induction ls generalizing k with
  | nil => simp at hx
  | cons y r ih =>
    rw [id_cons]
    cases k with
    | zero =>
      simp only [List.getElem?_cons_zero, Option.some.injEq] at hx
      subst hx; rw [if_pos he]
    | succ k =>
      rw [if_neg (hp 0 y (by omega) rfl)]
      exact ih (by simpa using hx) fun j z hj hz => hp (j + 1) z (by omega) (by simpa using hz)
theorem id_no {ls : List (Int × Ent)} {e : Ent} (hp : ∀ (j : Nat) (y : Int × Ent), ls[j]? = some y → y.2 ≠ e) : idOf ls e = none :=
  id_none_of fun hm => by
    obtain ⟨p, hpm, he⟩ := List.mem_map.mp hm
    obtain ⟨j, hj⟩ := List.getElem?_of_mem hpm
    exact hp j p hj he
set_option maxRecDepth 100000 in
set_option maxHeartbeats 4000000 in
theorem rentity_calls {B : Nat} {w : World} {g : Nat} {ls : List (Int × Ent)} {nx : Int} {S : List Nat} (h : RR B w g ls nx S) (hl : ls.length ≤ 1000000) (id : Int) :
    Calls Tryd.prog 24 #[.pointer (some ⟨g, 0, none⟩), .int .i64 id] w fun e w' => e = .returned (.tuple #[encE ((ownOf ls id).getD (0, 0)), .bool (ownOf ls id).isSome]) ∧ Fr [] w w' := by
  have H := hide h
  obtain ⟨A, c, g0, -, lg, -, hcell⟩ := h.see
  have Hc := hide hcell
  clear h hcell
  go_enter Tryd.func24, Tryd.ntmps24
  go_wp2_with fail
  have hf0 : Fr [] w (w.alloc (.cells #[.int .i64 0, .int .i64 0] 27)) := (Fr.refl _ _).alloc _
  have hb0 := Blk.new w 27 #[.int .i64 0, .int .i64 0]
  generalize World.alloc w _ = w1 at hf0 hb0 ⊢
  have lb := hb0.lt
  have fb := hb0.frozen
  have b0 := hb0.at_ 0 (v := .int .i64 0) rfl
  have b1 := hb0.at_ 1 (v := .int .i64 0) rfl
  have nbg : w.heap.size ≠ g := by omega
  have c0 := (hf0.cell (p := ⟨g, 0, none⟩) lg (by simp)).trans g0
  have lg1 := Nat.lt_of_lt_of_le lg hf0.size
  have Hf0 := hide hf0
  have Hb0 := hide hb0
  clear g0 hf0 hb0
  go_loopw [6] (fun s6 wr => wr = w1 ∧ ∃ k : Nat, k ≤ ls.length ∧ s6 = .int .i64 k ∧ ∀ j y, j < k → ls[j]? = some y → y.1 ≠ id) (fun s6 _ => ls.length - (intOf s6).toNat)
  case atStart => exact ⟨rfl, 0, by omega, rfl, fun j y hj => by omega⟩
  case round =>
    obtain ⟨rfl, k, hk, rfl, hp⟩ := hrel
    by_cases hkl : k < ls.length
    · obtain ⟨x, hx⟩ : ∃ x, ls[k]? = some x := ⟨_, List.getElem?_eq_getElem hkl⟩
      obtain ⟨b, rfl, lb2, x0, x1, x2⟩ := Hc.out k x hx
      have k0 : (0 : Int) ≤ (k : Int) := by omega
      have k1 : (k : Int) < (ls.length : Int) := by omega
      have nb2 : w.heap.size ≠ b := by omega
      replace x0 := (Hf0.out.cell (p := ⟨b, k * 3, none⟩) lb2 (by simp)).trans x0
      replace x1 := (Hf0.out.cell (p := ⟨b, k * 3 + 1, none⟩) lb2 (by simp)).trans x1
      replace x2 := (Hf0.out.cell (p := ⟨b, k * 3 + 2, none⟩) lb2 (by simp)).trans x2
      have Hp := hide hp
      have Hx := hide hx
      clear hp hx
      obtain ⟨d, e1, e2⟩ := x
      simp only at x0 x1 x2
      by_cases hd : d = id
      · have f : (d == id) = true := by simpa using hd
        have hown := own_at Hx.out hd Hp.out
        have Hown := hide hown
        clear hd hown
        obtain ⟨q0, q1⟩ := cells2_reads Hb0.out (.int .i64 e1) (.int .i64 e2)
        go_wp2_with fail
        refine bodyPost_ret (v := .tuple #[.agg #[.int .i64 e1, .int .i64 e2], .bool true]) (by simp [results, Tryd.results24, go_sem, q0, q1]) rfl ⟨by rw [Hown.out]; rfl, (Hf0.out.setCell (.inr (Nat.le_refl _)) _).setCell (.inr (Nat.le_refl _)) _⟩
      · have f : (d == id) = false := by simpa using hd
        have Hd := hide hd
        clear hd
        go_wp2_with fail
        go_roundw
        case rel =>
          refine ⟨trivial, k + 1, by omega, by go_num, fun j y hj hy => ?_⟩
          by_cases hjk : j = k
          · subst hjk; rw [Hx.out] at hy; obtain rfl := Option.some.inj hy; exact Hd.out
          · exact Hp.out j y (by omega) hy
        case measure => simp [intOf]; omega
    · obtain rfl : k = ls.length := by omega
      have hown := own_no (ls := ls) (id := id) fun j y hy => hp j y (List.getElem?_eq_some_iff.1 hy).1 hy
      have Hown := hide hown
      clear hp hown
      have k1 : ¬ (ls.length : Int) < (ls.length : Int) := by omega
      obtain ⟨q0, q1⟩ := cells2_reads Hb0.out (.int .i64 0) (.int .i64 0)
      go_wp2_with fail
      refine bodyPost_ret (v := .tuple #[.agg #[.int .i64 0, .int .i64 0], .bool false]) (by simp [results, Tryd.results24, go_sem, q0, q1]) rfl ⟨by rw [Hown.out]; rfl, (Hf0.out.setCell (.inr (Nat.le_refl _)) _).setCell (.inr (Nat.le_refl _)) _⟩
end Go.Proofs.YtpipgkglacmoeaaDoor

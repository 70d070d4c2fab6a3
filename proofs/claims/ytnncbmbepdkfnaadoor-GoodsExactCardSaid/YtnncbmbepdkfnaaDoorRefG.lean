/- The reference's goods: New, Get, Set, Put. -/
import Derived.Test.YtnncbmbepdkfnaaDoorGoods4
import Derived.Test.YtnncbmbepdkfnaaDoorRefCheck
import Derived.Test.YtnncbmbepdkfnaaDoorTree9
import Derived.Test.YtnncbmbepdkfnaaDoorAppends
import Derived.Deep.AppendLies
import Derived.Deep.QuietTactic
namespace Go.Proofs.YtnncbmbepdkfnaaDoor
open Go.RowKit
def RG (B : Nat) (w : World) (u : Nat) (s : Sa) (vs : List Int) (k : Int) (T : List Nat) : Prop :=
  ∃ lv, Blk w u 61 #[.slice s.A1 s.n1 s.c1, .slice s.A2 s.n2 s.c2, lv, .int .i64 k] ∧ w.ownsRow B 3 1 lv vs.length (ints vs) ∧ B ≤ u ∧ T = u :: lv.ownBlock.toList
theorem wpList_append_zero {P : Program} {ops : Array Oper} {rest : List Oper} {o : Oper} {a : Act} {w : World} {Q : Exit → Act → World → Prop} (hgd : o.guard = none) (s x : Operand) (t : TypeId)
    (ho : o.op = .call { callee := .builtin .append, args := #[s, x], argTypes := #[t, t] }) (e : TypeId) (i : TypeInfo) (ht : P.underlying t = some (.slice e)) (hi : P.info? e = some i) (N : Nat) (A : Option Addr) (c : Nat)
    (hs : a.eval s = .slice (some ⟨N, 0, none⟩) 0 0) (hx : a.eval x = .slice A 0 c) (h : wpList P ops Q rest (a.put o.dst (.slice (some ⟨N, 0, none⟩) 0 0)) w) : wpList P ops Q (o :: rest) a w :=
  wpList_plain hgd fun _ hK => by
    unfold Oper.wp execOp
    simp only [ho, resolve, invoke, builtin, Sem.run_bind, Sem.run_pure, Result.andThen_ok, List.map_toArray, List.map_cons, List.map_nil, hs, hx, run_append_zero w t _ e i ht hi N A c]
    exact hK _ _ h
theorem ints_at {vs : List Int} {i : Nat} {x : Int} (h : vs[i]? = some x) : (ints vs)[i]? = some (.int .i64 x) := by unfold ints; rw [List.getElem?_map, h]; rfl
section
variable {B : Nat} {w w' : World} {u : Nat} {s : Sa} {vs : List Int} {k : Int} {T S : List Nat}
theorem RG.fr (h : RG B w u s vs k T) (hf : Fr S w w') (hT : ∀ b ∈ T, b ∉ S) : RG B w' u s vs k T := by
  obtain ⟨lv, h1, h2, h3, rfl⟩ := h
  exact ⟨lv, h1.fr hf (hT _ (by simp)), row_fr h2 hf (fun q hq => hT q (by simp [hq])), h3, rfl⟩
theorem RG.fr0 (h : RG B w u s vs k T) (hf : Fr [] w w') : RG B w' u s vs k T := h.fr hf (by simp)
theorem RG.ge (h : RG B w u s vs k T) : ∀ b ∈ T, B ≤ b ∧ b < w.heap.size := by
  obtain ⟨lv, h1, h2, h3, rfl⟩ := h
  intro b hb
  simp only [List.mem_cons, Option.mem_toList] at hb
  rcases hb with rfl | hb
  · exact ⟨h3, h1.lt⟩
  · have := row_lt h2 hb; exact ⟨this.2, this.1⟩
theorem RG.up {B' : Nat} (h : RG B w u s vs k T) (hB : B' ≤ B) : RG B' w u s vs k T := by
  obtain ⟨lv, h1, h2, h3, rfl⟩ := h
  exact ⟨lv, h1, row_base h2 hB, by omega, rfl⟩
theorem RG.cells (h : RG B w u s vs k T) : ∃ A c, w.cell? ⟨u, 2, none⟩ = some (.slice A vs.length c) ∧ w.cell? ⟨u, 3, none⟩ = some (.int .i64 k) ∧ u < w.heap.size ∧ w.ownsRow B 3 1 (.slice A vs.length c) vs.length (ints vs) := by
  obtain ⟨lv, h1, h2, h3, rfl⟩ := h
  obtain ⟨A, c, rfl⟩ : ∃ A c, lv = .slice A vs.length c := by
    rcases row_form h2 with ⟨rfl, h0, _⟩ | ⟨g, cap, rfl, _⟩
    · exact ⟨none, 0, by rw [h0]⟩
    · exact ⟨_, _, rfl⟩
  exact ⟨A, c, h1.at_ 2 rfl, h1.at_ 3 rfl, h1.lt, h2⟩
set_option maxRecDepth 100000 in
theorem rget_in (h : RG B w u s vs k T) (hl : vs.length ≤ 1000) {i : Nat} {x : Int} (hx : vs[i]? = some x) : Calls Tryd.prog 24 #[gp u, .int .i64 i] w fun e w' => e = .returned (.tuple #[.int .i64 x, .bool true]) ∧ w = w' := by
  obtain ⟨A, c, c2, c3, lg, hr⟩ := h.cells
  have hi := (List.getElem?_eq_some_iff.1 hx).1
  have i0 : (0 : Int) ≤ (i : Int) := by omega
  have i1 : (i : Int) < (vs.length : Int) := by omega
  rcases row_form hr with ⟨_, h0, _⟩ | ⟨ga, cap, hv, _, lga, _, _⟩
  · omega
  injection hv with e1 e2 e3
  subst e1 e3
  have a0 := row_cell hr (i := i) (u := .int .i64 x) (by unfold ints; rw [List.getElem?_map, hx]; rfl)
  clear h hr hx
  generalize vs.length = n at *
  go_enter Tryd.func24, Tryd.ntmps24
  go_wp2_with fail
  go_ret2
  exact ⟨rfl, rfl⟩
set_option maxRecDepth 100000 in
theorem rget_out (h : RG B w u s vs k T) (hl : vs.length ≤ 1000) {i : Int} (hi : i < 0 ∨ (vs.length : Int) ≤ i) : Calls Tryd.prog 24 #[gp u, .int .i64 i] w fun e w' => e = .returned (.tuple #[.int .i64 0, .bool false]) ∧ w = w' := by
  obtain ⟨A, c, c2, c3, lg, hr⟩ := h.cells
  clear h hr
  by_cases h0 : i < 0
  · go_enter Tryd.func24, Tryd.ntmps24
    go_wp2_with fail
    go_ret2
    exact ⟨rfl, rfl⟩
  · have h1 : (vs.length : Int) ≤ i := by omega
    generalize vs.length = n at *
    go_enter Tryd.func24, Tryd.ntmps24
    go_wp2_with fail
    go_ret2
    exact ⟨rfl, rfl⟩
set_option maxRecDepth 100000 in
theorem rset_out (h : RG B w u s vs k T) (hl : vs.length ≤ 1000) {i : Int} (hi : i < 0 ∨ (vs.length : Int) ≤ i) (v : Int) : Calls Tryd.prog 22 #[gp u, .int .i64 i, .int .i64 v] w fun e w' => e = .returned (.tuple #[.int .i64 0, .int .i64 7]) ∧ w = w' := by
  have HG := hide (rget_out h hl hi)
  clear h
  go_enter Tryd.func22, Tryd.ntmps22
  go_wp2_with fail
  refine HG.out.mono ?_
  rintro e w' ⟨rfl, rfl⟩
  go_wp2_with fail
  go_ret2
  exact ⟨rfl, rfl⟩
set_option maxRecDepth 100000 in
set_option maxHeartbeats 2000000 in
theorem rset_in (h : RG B w u s vs k T) (hB : B ≤ w.heap.size) (hl : vs.length ≤ 1000) {i : Nat} {x : Int} (hx : vs[i]? = some x) (v : Int) (h0 : 0 ≤ k) (h1 : k ≤ 1000000) :
    Calls Tryd.prog 22 #[gp u, .int .i64 i, .int .i64 v] w fun e w' => e = .returned (.tuple #[.int .i64 x, .int .i64 0]) ∧ ∃ T', RG B w' u s (vs.set i v) (k + 1) T' ∧ Stp T T' w w' := by
  have HG := hide (rget_in h hl hx)
  have hi := (List.getElem?_eq_some_iff.1 hx).1
  have i0 : (0 : Int) ≤ (i : Int) := by omega
  have i1 : (i : Int) < (vs.length : Int) := by omega
  obtain ⟨i9, hi9, hz9, hs9, hb9⟩ := info_parts infoIntG
  obtain ⟨lv, k1, k2, k3, rfl⟩ := h
  rcases row_form k2 with ⟨_, h0, _⟩ | ⟨ga, cap, rfl, _, lga, _, _⟩
  · omega
  have c2 := k1.at_ 2 (v := .slice (some ⟨ga, 0, none⟩) vs.length cap) rfl
  have lg := k1.lt
  have ne : (w.alloc (.cells #[] 3)).ownsRow w.heap.size 3 1 (.slice (some ⟨w.heap.size, 0, none⟩) 0 0) 0 [] := row_mk (cur := #[]) (Blk.new _ _ _) (Nat.le_refl _) (Nat.le_refl _) (by unfold maxLen; omega) rfl rfl
  have H := hide (And.intro k1 (And.intro k2 (And.intro k3 ne)))
  have Hx := hide hx
  obtain ⟨n, hn⟩ : ∃ n, n = vs.length := ⟨_, rfl⟩
  have Hn := hide hn
  rw [← hn] at c2 i1 hi hl
  clear k1 k2 k3 hx ne hn
  have Hone : Hid (∀ v ∈ ints vs, v.oneCell' = true) := hide (fun v hv => by obtain ⟨y, -, rfl⟩ := List.mem_map.1 hv; rfl)
  have HN := hide (row_newsK (H.out.2.1.alloc (.cells #[] 3)))
  go_enter Tryd.func22, Tryd.ntmps22
  go_wp2_with fail
  refine HG.out.mono ?_
  rintro e w' ⟨rfl, rfl⟩
  go_wp2_with ((at_builtin; refine wpList_append_lies _ rfl _ _ _ rfl w.heap.size 3 i9 _ 1 8 Tryd.underlying36 hi9 hz9 hs9 hb9 rfl (by omega) (.slice (some ⟨w.heap.size, 0, none⟩) 0 0) (0) ([]) rfl (H.out.2.2.2) (⟨ga, 0, none⟩) (n) (cap) (ints vs) rfl (by rw [Hn.out]; simp [ints]) (HN.out) (Hone.out) (by omega) (by unfold maxLen; omega) (by omega) (by first | omega | (simp; done) | (simp; omega)) (w.heap.size + 1) (by simp) ?_; intro ag9 ac9 aw9 aown9 agrow9 aat9 alt9; have hu9 := (H.out.1.alloc (.cells #[] 3)).grown agrow9 (by simp [Value.ownBlock]; omega); have z2 := hu9.at_ 2 (v := .slice (some ⟨ga, 0, none⟩) vs.length cap) rfl; have z3 := hu9.at_ 3 (v := .int .i64 k) rfl; have fz2 := hu9.frozen 2; have fz3 := hu9.frozen 3; have lz := hu9.lt; have rz := row_base aown9 (Nat.le_refl _); simp only [Nat.zero_add, List.nil_append] at rz; have cz := row_cell rz (ints_at Hx.out); have fz := (row_blk rz).choose_spec.1.frozen i; have nz : ag9 ≠ u := (by have := (row_lt rz (k := ag9) rfl).2; omega); have nz' := nz.symm; have HZ := hide (And.intro hu9 (And.intro rz agrow9)); clear hu9 rz))
  go_ret2
  obtain ⟨hu9, rz, hgr⟩ := HZ.out
  have hage := (row_lt rz (k := ag9) rfl).2
  have hf9 : Fr [] w aw9 := ((Fr.refl _ _).alloc _).grown hgr (fun q hq => .inr (by
    have : w.heap.size = q := by simpa [Value.ownBlock] using hq
    omega))
  refine ⟨rfl, [u, ag9], ⟨.slice (some ⟨ag9, 0, none⟩) n ac9, ?_, ?_, H.out.2.2.1, rfl⟩, ?_, ?_⟩
  · have := ((hu9.set_ 2 (.slice (some ⟨ag9, 0, none⟩) n ac9)).far (p := ⟨ag9, i, none⟩) nz' (.int .i64 v)).set_ 3 (.int .i64 (k + 1))
    simpa using this
  · have h1 := row_far (row_base rz hB) (p := ⟨u, 2, none⟩) (by simp [Value.ownBlock, nz]) (.slice (some ⟨ag9, 0, none⟩) n ac9)
    have h2 := row_store h1 i (by omega) (.int .i64 v)
    rw [ints_set] at h2
    have h3 := row_far h2 (p := ⟨u, 3, none⟩) (by simp [Value.ownBlock, nz]) (.int .i64 (k + 1))
    rw [List.length_set, ← Hn.out]
    exact h3
  · exact (((hf9.any _).setCell (p := ⟨u, 2, none⟩) (.inl (by simp)) _).setCell (p := ⟨ag9, i, none⟩) (.inr hage) _).setCell (p := ⟨u, 3, none⟩) (.inl (by simp)) _
  · intro b hb
    simp only [List.mem_cons, List.not_mem_nil, or_false] at hb
    rcases hb with rfl | rfl
    · exact .inl (by simp)
    · exact .inr hage
theorem RG.bump (h : RG B w u s vs k T) (k' : Int) : RG B (w.setCell ⟨u, 3, none⟩ (.int .i64 k')) u s vs k' T ∧ Fr T w (w.setCell ⟨u, 3, none⟩ (.int .i64 k')) := by
  obtain ⟨lv, h1, h2, h3, rfl⟩ := h
  have n1 : lv.ownBlock ≠ some u := row_blk_ne h2 h1 (by decide)
  exact ⟨⟨lv, by simpa using h1.set_ 3 (.int .i64 k'), row_far h2 n1 _, h3, rfl⟩, (Fr.refl _ w).setCell (p := ⟨u, 3, none⟩) (.inl (by simp)) _⟩
theorem RG.frozen (h : RG B w u s vs k T) (i : Nat) : w.frozen? ⟨u, i, none⟩ = false := by
  obtain ⟨lv, h1, h2, h3, rfl⟩ := h
  exact h1.frozen i
set_option maxRecDepth 100000 in
theorem rput_bad (h : RG B w u s vs k T) (hl : vs.length ≤ 1000) {A : Option Addr} {n c : Nat} (hn : n ≠ vs.length) (hn2 : n ≤ 1000000) : Calls Tryd.prog 25 #[gp u, .slice A n c] w fun e w' => e = .returned (.int .i64 1) ∧ w = w' := by
  obtain ⟨A', c', c2, c3, lg, -⟩ := h.cells
  have hne : ((n : Int) != (vs.length : Int)) = true := by simp; omega
  have hne2 : ¬ ((n : Int) = (vs.length : Int)) := by omega
  clear h
  generalize vs.length = m at *
  go_enter Tryd.func25, Tryd.ntmps25
  go_wp2_with fail
  go_ret
  exact ⟨rfl, rfl⟩
set_option maxRecDepth 100000 in
set_option maxHeartbeats 4000000 in
theorem rput_in {xs : List Int} (h : RG B w u s vs k T) (hB : B ≤ w.heap.size) (hl : vs.length ≤ 1000) (hx : xs.length = vs.length) {A : Option Addr} {c : Nat} (h0 : 0 ≤ k) (h1 : k ≤ 100000)
    (hcl : ∀ W, Fr T w W → ∀ j y, xs[j]? = some y → ∃ b off, A = some ⟨b, off, none⟩ ∧ b < w.heap.size ∧ b ∉ T ∧ W.cell? ⟨b, off + j, none⟩ = some (.int .i64 y)) :
    Calls Tryd.prog 25 #[gp u, .slice A vs.length c] w fun e w' => e = .returned (.int .i64 0) ∧ ∃ T', RG B w' u s xs (k + dif xs vs vs.length) T' ∧ Stp T T' w w' := by
  obtain ⟨A', c', c2, c3, lg, -⟩ := h.cells
  have H0 := hide (And.intro h hcl)
  have Hx := hide hx
  obtain ⟨i9, hi9, hz9, hs9, hb9⟩ := info_parts infoIntG
  obtain ⟨n, hn⟩ : ∃ n, n = vs.length := ⟨_, rfl⟩
  have Hn := hide hn
  have Hone : Hid (∀ v ∈ ints xs, v.oneCell' = true) := hide (fun v hv => by obtain ⟨y, -, rfl⟩ := List.mem_map.1 hv; rfl)
  rw [← hn] at hl c2 ⊢
  clear h hcl c3 hn hx
  go_enter Tryd.func25, Tryd.ntmps25
  go_wp2_with fail
  go_loopw [5] (fun s5 wr => ∃ i : Nat, i ≤ n ∧ s5 = .int .i64 i ∧ RG B wr u s vs (k + dif xs vs i) T ∧ Fr T w wr) (fun s5 _ => n - (intOf s5).toNat)
  case atStart => exact ⟨0, by omega, rfl, by simpa [dif] using H0.out.1, Fr.refl _ _⟩
  case round =>
    obtain ⟨i, hi, rfl, hgr, hf⟩ := hrel
    have j0 : (0 : Int) ≤ (i : Int) := by omega
    have hdl := dif_le xs vs i
    by_cases hin : i < n
    · have j1 : (i : Int) < (n : Int) := by omega
      obtain ⟨x, hx⟩ : ∃ x, xs[i]? = some x := ⟨_, List.getElem?_eq_getElem (by rw [Hx.out, ← Hn.out]; exact hin)⟩
      obtain ⟨y, hy⟩ : ∃ y, vs[i]? = some y := ⟨_, List.getElem?_eq_getElem (by rw [← Hn.out]; exact hin)⟩
      obtain ⟨b, off, rfl, lb, -, a0⟩ := H0.out.2 wr hf i x hx
      have lb' := Nat.lt_of_lt_of_le lb hf.size
      have hd := dif_succ xs vs i
      obtain ⟨A2, cc, d2, d3, lg2, hr2⟩ := hgr.cells
      rw [← Hn.out] at d2 hr2
      rcases row_form hr2 with ⟨_, h0, _⟩ | ⟨ga, cap, hv, _, lga, _, _⟩
      · omega
      injection hv with e1 e2 e3
      subst e1 e3
      have r0 := row_cell hr2 (ints_at hy)
      by_cases hxy : x = y
      · subst hxy
        have H := hide (And.intro hgr (And.intro hf hd))
        have Hxy := hide (And.intro hx hy)
        clear hgr hf hd hx hy hr2 d3
        go_wp2_with fail
        go_quiet (fail)
        go_wp2_with fail
        go_roundw
        case rel =>
          refine ⟨i + 1, by omega, by go_num, ?_, H.out.2.1.drewN _⟩
          rw [H.out.2.2, if_neg (by rw [Hxy.out.1, Hxy.out.2]; simp)]
          exact H.out.1.fr0 ((Fr.refl _ _).drewN _)
        case measure => simp [intOf]; omega
      · have hb : (x == y) = false := by simpa using hxy
        have hb2 : (x != y) = true := by simpa using hxy
        have fz := hgr.frozen 3
        have H := hide (And.intro hgr (And.intro hf hd))
        have Hxy := hide (And.intro hx (And.intro hy hxy))
        clear hgr hf hd hx hy hr2
        go_wp2_with fail
        go_quiet (fail)
        go_wp2_with fail
        go_roundw
        case rel =>
          have hb := (H.out.1.fr0 ((Fr.refl _ wr).drewN nq)).bump (k + dif xs vs i + 1)
          refine ⟨i + 1, by omega, by go_num, ?_, (H.out.2.1.drewN _).trans hb.2⟩
          rw [H.out.2.2, if_pos (by rw [Hxy.out.1, Hxy.out.2.1]; simpa using Hxy.out.2.2)]
          rw [show k + ((dif xs vs i + 1 : Nat) : Int) = k + (dif xs vs i : Nat) + 1 by omega]
          exact hb.1
        case measure => simp [intOf]; omega
    · obtain rfl : i = n := by omega
      have ne : (wr.alloc (.cells #[] 3)).ownsRow wr.heap.size 3 1 (.slice (some ⟨wr.heap.size, 0, none⟩) 0 0) 0 [] := row_mk (cur := #[]) (Blk.new _ _ _) (Nat.le_refl _) (Nat.le_refl _) (by unfold maxLen; omega) rfl rfl
      have j1 : ¬ (i : Int) < (i : Int) := by omega
      have hBr : B ≤ wr.heap.size := Nat.le_trans hB hf.size
      have hf1 := hf.alloc (.cells #[] 3)
      have hg1 := hgr.fr0 ((Fr.refl _ _).alloc (.cells #[] 3))
      have HG0 := hide (And.intro hgr hf)
      have hul := (hgr.ge u (by obtain ⟨lv, h1, h2, h3, rfl⟩ := hgr; simp)).2
      by_cases hi0 : i = 0
      · subst hi0
        have hxn : xs = [] := List.eq_nil_of_length_eq_zero (by rw [Hx.out, ← Hn.out])
        obtain ⟨A2, cc, d2, d3, lg2, hr2⟩ := hg1.cells
        have fz := hg1.frozen 2
        have H := hide (And.intro hg1 (And.intro hf1 (And.intro ne hxn)))
        clear hgr hf hr2 ne hf1 hg1 hxn
        rw [← Hn.out] at d2
        simp only [show ((0 : Nat) : Int) = 0 from rfl] at j0 j1 ⊢
        go_wp2_with (at_builtin; refine wpList_append_zero rfl _ _ _ rfl 3 i9 Tryd.underlying36 hi9 wr.heap.size A c rfl rfl ?_)
        go_ret
        obtain ⟨hgr, hf⟩ := HG0.out
        obtain ⟨lv, q1, q2, q3, rfl⟩ := hgr
        have hsz := hf.size
        rw [H.out.2.2.2]
        refine ⟨rfl, [u, wr.heap.size], ⟨.slice (some ⟨wr.heap.size, 0, none⟩) 0 0, ?_, ?_, q3, rfl⟩, ?_, ?_⟩
        · have := (q1.set_ 2 (.slice (some ⟨wr.heap.size, 0, none⟩) 0 0)).alloc (.cells #[] 3)
          simpa [dif] using this
        · exact row_mk (cur := #[]) (Blk.new_at _ _ _ _ (by simp)) hBr (Nat.le_refl _) (by unfold maxLen; omega) rfl rfl
        · exact (hf.setCell (p := ⟨u, 2, none⟩) (.inl (by simp)) _).alloc _
        · intro b hb
          simp only [List.mem_cons, List.not_mem_nil, or_false] at hb
          rcases hb with rfl | rfl
          · exact .inl (by simp)
          · exact .inr hsz
      · obtain ⟨x, hx⟩ : ∃ x, xs[0]? = some x := ⟨_, List.getElem?_eq_getElem (by rw [Hx.out, ← Hn.out]; omega)⟩
        obtain ⟨b, off, rfl, lb, hbT, -⟩ := H0.out.2 wr hf 0 x hx
        have hnews : ∀ j v, (ints xs)[j]? = some v → (wr.alloc (.cells #[] 3)).cell? ((⟨b, off, none⟩ : Addr).add j) = some v := by
          intro j v hv
          unfold ints at hv
          rw [List.getElem?_map] at hv
          obtain ⟨y, hy, rfl⟩ := Option.map_eq_some_iff.1 hv
          obtain ⟨b', off', hA, _, _, hc⟩ := H0.out.2 _ hf1 j y hy
          injection hA with hA
          injection hA with e1 e2
          subst e1 e2
          rw [add_lit]
          exact hc
        have HN := hide hnews
        have HU := hide (fun q hq => (hgr.ge q hq).2)
        have H := hide (And.intro hg1 (And.intro hf1 ne))
        clear hgr hf ne hf1 hg1 hnews hx
        go_wp2_with ((at_builtin; refine wpList_append_lies _ rfl _ _ _ rfl wr.heap.size 3 i9 _ 1 8 Tryd.underlying36 hi9 hz9 hs9 hb9 rfl (by omega) (.slice (some ⟨wr.heap.size, 0, none⟩) 0 0) (0) ([]) rfl (H.out.2.2) (⟨b, off, none⟩) (i) (c) (ints xs) rfl (by rw [ints_len, Hx.out, ← Hn.out, Nat.mul_one]) (HN.out) (Hone.out) (by omega) (by unfold maxLen; omega) (by omega) (by first | omega | (simp; done) | (simp; omega)) (wr.heap.size + 1) (by simp) ?_; intro ag9 ac9 aw9 aown9 agrow9 aat9 alt9; have hTf : Fr [wr.heap.size] (wr.alloc (.cells #[] 3)) aw9 := Fr.of_grown agrow9 (fun q hq => .inl (by
            have : wr.heap.size = q := by simpa [Value.ownBlock] using hq
            simp [this])); have hg9 := H.out.1.fr hTf (fun q hq hm => by
            have h1 : q = wr.heap.size := by simpa using hm
            have := (HU.out q hq); omega); obtain ⟨A2, cc, d2, d3, lg2, hr2⟩ := hg9.cells; have fz2 := hg9.frozen 2; have rz := row_base aown9 (Nat.le_refl _); simp only [Nat.zero_add, List.nil_append] at rz; have HZ := hide (And.intro hg9 (And.intro rz hTf)); clear hg9 rz hTf hr2))
        go_ret
        obtain ⟨hg9, rz, hTf⟩ := HZ.out
        have hage := (row_lt rz (k := ag9) rfl).2
        have hsz := HG0.out.2.size
        obtain ⟨lv, q1, q2, q3, hT⟩ := hg9
        have huT : u ∈ T := by rw [hT]; simp
        refine ⟨rfl, [u, ag9], ⟨.slice (some ⟨ag9, 0, none⟩) i ac9, ?_, ?_, q3, rfl⟩, ?_, ?_⟩
        · simpa using q1.set_ 2 (.slice (some ⟨ag9, 0, none⟩) i ac9)
        · rw [Hx.out, ← Hn.out]
          exact row_far (row_base rz hBr) (p := ⟨u, 2, none⟩) (by simp [Value.ownBlock]; omega) _
        · exact ((H.out.2.1.step hTf (fun y hy => .inr (by rw [List.mem_singleton] at hy; omega))).setCell (p := ⟨u, 2, none⟩) (.inl huT) _)
        · intro b hb
          simp only [List.mem_cons, List.not_mem_nil, or_false] at hb
          rcases hb with rfl | rfl
          · exact .inl huT
          · exact .inr (by omega)
end
end Go.Proofs.YtnncbmbepdkfnaaDoor

/- The journal of the reference as an object: New, last, Mark. -/
import Derived.Test.YtioeafjlbdpjoaaDoorSameU
import Derived.Test.YtioeafjlbdpjoaaDoorSame
import Derived.Test.YtioeafjlbdpjoaaDoorForgetJ
import Derived.Maps.AppendAt
namespace Go.Proofs.YtioeafjlbdpjoaaDoor
open Go.RowKit
structure En where
  m : Int
  d : Ud
def En.cells (e : En) : List Value := .int .i64 e.m :: e.d.cells
theorem En.cells_len (e : En) : e.cells.length = 12 := rfl
def En.say (e : En) : Int × Un := (e.m, e.d.u)
/-- A journal of the reference at block u: how many entries at most, the marks, the entries behind which mark; T: its blocks. -/
def RJ (B : Nat) (w : World) (u : Nat) (most : Int) (ms : List Int) (L : List (Int × Un)) (T : List Nat) : Prop :=
  ∃ (mv lv : Value) (es : List En), Blk w u 61 #[.int .i64 most, mv, lv] ∧ w.ownsRow B 3 1 mv ms.length (ints ms) ∧ w.ownsRow B 95 12 lv L.length (es.flatMap En.cells) ∧ es.map En.say = L ∧ (∀ e ∈ es, PsOk (· < B) w e.d) ∧ B ≤ u ∧ T = u :: (mv.ownBlock.toList ++ lv.ownBlock.toList)
section
variable {B : Nat} {w w' : World} {u : Nat} {most : Int} {ms : List Int} {L : List (Int × Un)} {T X : List Nat}
theorem RJ.ge (h : RJ B w u most ms L T) : ∀ b ∈ T, B ≤ b ∧ b < w.heap.size := by
  obtain ⟨mv, lv, es, h1, h2, h3, h4, h5, h6, rfl⟩ := h
  intro b hb
  simp only [List.mem_cons, List.mem_append, Option.mem_toList] at hb
  rcases hb with rfl | hb | hb
  · exact ⟨h6, h1.lt⟩
  · have := row_lt h2 hb; exact ⟨this.2, this.1⟩
  · have := row_lt h3 hb; exact ⟨this.2, this.1⟩
theorem RJ.fr (h : RJ B w u most ms L T) (hf : Fr X w w') (hX : ∀ b ∈ T, b ∉ X) (hB : ∀ b ∈ X, B ≤ b) : RJ B w' u most ms L T := by
  obtain ⟨mv, lv, es, h1, h2, h3, h4, h5, h6, rfl⟩ := h
  exact ⟨mv, lv, es, h1.fr hf (hX _ (by simp)), row_fr h2 hf (fun k hk => hX k (by simp [hk])), row_fr h3 hf (fun k hk => hX k (by simp [hk])), h4, fun e he => (h5 e he).keep hf (fun b hb hm => by have := hB b hm; omega), h6, rfl⟩
theorem RJ.fr0 (h : RJ B w u most ms L T) (hf : Fr [] w w') : RJ B w' u most ms L T := h.fr hf (by simp) (by simp)
theorem RJ.mem (h : RJ B w u most ms L T) : u ∈ T := by
  obtain ⟨mv, lv, es, h1, h2, h3, h4, h5, h6, rfl⟩ := h
  simp
end
theorem infoEntry : (Tryd.prog.info? 95).map (fun i => (i.zero, i.size, i.bytes)) = some (some (.agg #[.int .i64 0, .int .i64 0, .int .i64 0, .int .i64 0, .int .i64 0, .int .i64 0, .int .i64 0, .int .i64 0, .int .i64 0, .slice none 0 0, .int .i64 0, .int .i64 0]), 12, 112) := by kernel_rfl
theorem rnew_bad (w : World) {most : Int} (h : most < 1 ∨ 65536 < most) : Calls Tryd.prog 20 #[.int .i64 most] w fun e w' => e = .returned (.pointer none) ∧ w = w' := by
  rcases h with h | h
  all_goals
    first
    | (have h' : ¬ most < 1 := by omega)
    | skip
    go_enter Tryd.func20, Tryd.ntmps20
    go_wp2_with fail
    go_ret
    exact ⟨rfl, rfl⟩
set_option maxRecDepth 100000 in
theorem rnew_calls {B : Nat} {w : World} (hB : B ≤ w.heap.size) {most : Int} (h1 : 1 ≤ most) (h2 : most ≤ 65536) : Calls Tryd.prog 20 #[.int .i64 most] w fun e w' => ∃ u, e = .returned (.pointer (some ⟨u, 0, none⟩)) ∧ (∃ T, RJ B w' u most [] [] T ∧ ∀ b ∈ T, w.heap.size ≤ b) ∧ Fr [] w w' := by
  have h1' : ¬ most < 1 := by omega
  have h2' : ¬ most > 65536 := by omega
  go_enter Tryd.func20, Tryd.ntmps20
  go_wp2_with fail
  go_ret
  exact ⟨_, rfl, ⟨_, ⟨.slice none 0 0, .slice none 0 0, [], Blk.new _ _ _, World.ownsRow_nil _ _ _ _, World.ownsRow_nil _ _ _ _, rfl, by simp, hB, rfl⟩, by simp [Value.ownBlock]⟩, (Fr.refl _ _).alloc _⟩
def lastI (ms : List Int) : Int := (ms.getLast?).getD (-1)
set_option maxRecDepth 100000 in
set_option maxHeartbeats 1000000 in
theorem rlast_calls {B : Nat} {w : World} {u : Nat} {most : Int} {ms : List Int} {L : List (Int × Un)} {T : List Nat} (h : RJ B w u most ms L T) (hn : ms.length ≤ 1000000) :
    Calls Tryd.prog 41 #[ptr u] w fun e w' => e = .returned (.int .i64 (lastI ms)) ∧ ∃ n, w.drewN n = w' := by
  obtain ⟨mv, lv, es, h1, h2, h3, h4, h5, h6, rfl⟩ := h
  have lu := h1.lt
  rcases List.eq_nil_or_concat ms with rfl | ⟨ms', x, rfl⟩
  · obtain ⟨A, c, rfl⟩ : ∃ A c, mv = .slice A 0 c := by
      rcases row_form h2 with ⟨rfl, _⟩ | ⟨g, cap, rfl, _⟩
      · exact ⟨_, _, rfl⟩
      · exact ⟨_, _, rfl⟩
    have c1 := h1.at_ 1 (v := .slice A 0 c) rfl
    clear h1 h2 h3 h4 h5 h6
    go_enter Tryd.func41, Tryd.ntmps41
    go_wp2_with fail
    go_ret
    exact ⟨rfl, 0, rfl⟩
  · rw [List.concat_eq_append] at *
    have hl : (ms' ++ [x]).length = ms'.length + 1 := by simp
    rw [hl] at h2 hn
    obtain ⟨gg, c, rfl, _, lgg, hnc, hcm⟩ : ∃ gg c, mv = .slice (some ⟨gg, 0, none⟩) (ms'.length + 1) c ∧ B ≤ gg ∧ gg < w.heap.size ∧ ms'.length + 1 ≤ c ∧ c ≤ maxLen := by
      rcases row_form h2 with ⟨_, h0, _⟩ | h
      · omega
      · exact h
    have hx : lastI (ms' ++ [x]) = x := by simp [lastI]
    rw [hx]
    have c1 := h1.at_ 1 (v := .slice (some ⟨gg, 0, none⟩) (ms'.length + 1) c) rfl
    have p0 := row_cell h2 (i := ms'.length) (u := .int .i64 x) (by simp [ints])
    have e1 : ((ms'.length + 1 : Nat) : Int) - 1 = (ms'.length : Int) := by omega
    have n0 : ¬ ((ms'.length + 1 : Nat) : Int) = 0 := by omega
    have e2 : IntKind.i64.wrap (((ms'.length + 1 : Nat) : Int) - 1) = (ms'.length : Int) := by rw [e1, IntKind.wrap_i64]; omega
    have i0 : (0 : Int) ≤ (ms'.length : Int) := by omega
    have i1 : (ms'.length : Int) < ((ms'.length + 1 : Nat) : Int) := by omega
    clear h1 h2 h3 h4 h5 h6 e1 hx hl
    generalize ms'.length = n at *
    go_enter Tryd.func41, Tryd.ntmps41
    go_wp2_with fail
    go_quiet (fail)
    go_wp2_with fail
    go_ret
    exact ⟨rfl, _, rfl⟩
def RMarkOk (ms : List Int) (f : Int) : Prop := 0 ≤ f ∧ f ≤ 1073741824 ∧ lastI ms < f
set_option maxRecDepth 100000 in
set_option maxHeartbeats 2000000 in
theorem rmark_bad {B : Nat} {w : World} {u : Nat} {most : Int} {ms : List Int} {L : List (Int × Un)} {T : List Nat} (h : RJ B w u most ms L T) (hn : ms.length ≤ 1000000) {f : Int} (hok : ¬ RMarkOk ms f) :
    Calls Tryd.prog 21 #[ptr u, .int .i64 f] w fun e w' => e = .returned (.int .i64 1) ∧ Fr [] w w' := by
  have HL := hide (rlast_calls h hn)
  have hc : decide (f < 0) = true ∨ (decide (f < 0) = false ∧ decide (1073741824 < f) = true) ∨ (decide (f < 0) = false ∧ decide (1073741824 < f) = false ∧ decide (f ≤ lastI ms) = true) := by
    unfold RMarkOk at hok
    by_cases h1 : f < 0
    · exact .inl (decide_eq_true h1)
    · by_cases h2 : 1073741824 < f
      · exact .inr (.inl ⟨decide_eq_false h1, decide_eq_true h2⟩)
      · exact .inr (.inr ⟨decide_eq_false h1, decide_eq_false h2, decide_eq_true (by omega)⟩)
  clear h hok
  generalize lastI ms = lm at *
  rcases hc with h1 | ⟨h1, h2⟩ | ⟨h1, h2, h3⟩
  · go_enter Tryd.func21, Tryd.ntmps21
    go_wp2_with fail
    go_ret
    exact ⟨rfl, Fr.refl _ _⟩
  · go_enter Tryd.func21, Tryd.ntmps21
    go_wp2_with fail
    go_ret
    exact ⟨rfl, Fr.refl _ _⟩
  · go_enter Tryd.func21, Tryd.ntmps21
    go_wp2_with fail
    refine HL.out.mono ?_
    rintro e w1 ⟨rfl, nq, rfl⟩
    go_wp2_with fail
    go_ret
    exact ⟨rfl, (Fr.refl _ _).drewN _⟩
end Go.Proofs.YtioeafjlbdpjoaaDoor

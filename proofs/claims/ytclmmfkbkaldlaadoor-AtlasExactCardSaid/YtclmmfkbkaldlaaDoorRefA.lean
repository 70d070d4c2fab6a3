/- The reference of chapter 08 by contracts: New, At, Turn. -/
import Derived.Test.YtclmmfkbkaldlaaDoorSteps
import Derived.Test.YtclmmfkbkaldlaaDoorLawAOnce
namespace Go.Proofs.YtclmmfkbkaldlaaDoor
open Go.RowKit

theorem infoMask : (Tryd.prog.info? 33).map (fun i => (i.zero, i.size, i.bytes)) = some (some (.int .u32 0), 1, 4) := by kernel_rfl
abbrev msks (ms : List Nat) : List Value := ms.map fun m : Nat => Value.int .u32 (m : Int)
/-- The reference's atlas at block g. -/
def RefA (B : Nat) (w : World) (g cn : Nat) (ms S : List Nat) : Prop :=
  ∃ vL : Value, B ≤ g ∧ Blk w g 61 #[.int .i64 cn, vL] ∧ w.ownsRow B 33 1 vL ms.length (msks ms) ∧ cn ≤ 16 ∧ 0 < ms.length ∧ (∀ m ∈ ms, m < 2 ^ cn) ∧ S = g :: vL.ownBlock.toList
section
variable {B : Nat} {w w' : World} {g cn : Nat} {ms S T : List Nat}
theorem RefA.lt (h : RefA B w g cn ms S) : ∀ b ∈ S, b < w.heap.size ∧ B ≤ b := by
  obtain ⟨vL, hB, hg, h1, -, -, -, rfl⟩ := h
  intro b hb
  simp only [List.mem_cons, Option.mem_toList] at hb
  rcases hb with rfl | hb
  · exact ⟨hg.lt, hB⟩
  · exact row_lt h1 hb
theorem RefA.fr (h : RefA B w g cn ms S) (hf : Fr T w w') (hd : ∀ b ∈ S, b ∉ T) : RefA B w' g cn ms S := by
  obtain ⟨vL, hB, hg, h1, h2, h3, h4, rfl⟩ := h
  exact ⟨vL, hB, hg.fr hf (hd _ (by simp)), row_fr h1 hf (fun k hk => hd k (by simp [hk])), h2, h3, h4, rfl⟩
theorem RefA.fr0 (h : RefA B w g cn ms S) (hf : Fr [] w w') : RefA B w' g cn ms S := h.fr hf (by simp)
theorem RefA.form (h : RefA B w g cn ms S) : ∃ gL c, Blk w g 61 #[.int .i64 cn, .slice (some ⟨gL, 0, none⟩) ms.length c] ∧ w.ownsRow B 33 1 (.slice (some ⟨gL, 0, none⟩) ms.length c) ms.length (msks ms) ∧ cn ≤ 16 ∧ (∀ m ∈ ms, m < 2 ^ cn) ∧ B ≤ g ∧ 0 < ms.length ∧ S = [g, gL] := by
  obtain ⟨vL, hB, hg, h1, h2, h3, h4, rfl⟩ := h
  rcases row_form h1 with ⟨_, h0, _⟩ | ⟨gp, cp, rfl, _⟩
  · omega
  · exact ⟨gp, cp, hg, h1, h2, h4, hB, h3, by simp [Value.ownBlock]⟩
end
def RNewPost (B : Nat) (w : World) (cn : Nat) (e : Ending) (w' : World) : Prop := ∃ g S, e = .returned (.pointer (some ⟨g, 0, none⟩)) ∧ RefA B w' g cn [0] S ∧ Fr [] w w' ∧ ∀ b ∈ S, w.heap.size ≤ b
theorem rnew_ok {B : Nat} {w : World} (hB : B ≤ w.heap.size) (cn : Nat) (hcn : cn ≤ 16) : Calls Tryd.prog 18 #[.int .i64 cn] w (RNewPost B w cn) := by
  have H : Hid (RefA B ((w.alloc (.cells #[.int .u32 0] 33)).alloc (.cells #[.int .i64 cn, .slice (some ⟨w.heap.size, 0, none⟩) 1 1] 61)) (w.heap.size + 1) cn [0] [w.heap.size + 1, w.heap.size]) := hide ⟨.slice (some ⟨w.heap.size, 0, none⟩) 1 1, by omega, Blk.new_at _ _ _ _ (by simp), row_mk ((Blk.new w 33 #[.int .u32 0]).alloc _) hB (Nat.le_refl _) (by simp [maxLen]) rfl rfl, hcn, by simp, by simpa using Nat.two_pow_pos cn, by simp [Value.ownBlock]⟩
  go_enter Tryd.func18, Tryd.ntmps18
  go_wp2_with fail
  go_ret
  exact ⟨_, _, rfl, H.out, ((Fr.refl _ _).alloc _).alloc _, by simp⟩
theorem rnew_nil (w : World) (n : Int) (hn : n < 0 ∨ 16 < n) : Calls Tryd.prog 18 #[.int .i64 n] w fun e w' => e = .returned (.pointer none) ∧ w = w' := by
  by_cases h1 : n < 0
  · go_enter Tryd.func18, Tryd.ntmps18
    go_wp2_with fail
    go_ret
    exact ⟨rfl, rfl⟩
  · have h2 : 16 < n := by omega
    go_enter Tryd.func18, Tryd.ntmps18
    go_wp2_with fail
    go_ret
    exact ⟨rfl, rfl⟩
/-! ### At -/
theorem rat_arg {B : Nat} {w : World} {g cn : Nat} {ms S : List Nat} (h : RefA B w g cn ms S) (m : Nat) (hm : ¬ m < 2 ^ cn) :
    Calls Tryd.prog 19 #[.pointer (some ⟨g, 0, none⟩), .int .u32 m] w fun e w' => e = .returned (.tuple #[.int .i64 0, .int .i64 1]) ∧ w = w' := by
  have hz := shr_big hm
  obtain ⟨gL, c, hg, -, hc, -, -, -, -⟩ := h.form
  have g0 := hg.at_ 0 (v := .int .i64 cn) rfl
  have lg := hg.lt
  clear h hg hm
  go_enter Tryd.func19, Tryd.ntmps19
  go_wp2_with fail
  go_ret2
  exact ⟨rfl, rfl⟩
theorem rat_end {B : Nat} {w w2 w4 w5 : World} {g gL gA gB c capA capB cn m : Nat} {ms : List Nat} {o : Obj} (hg : Blk w g 61 #[.int .i64 cn, .slice (some ⟨gL, 0, none⟩) ms.length c]) (hr : w.ownsRow B 33 1 (.slice (some ⟨gL, 0, none⟩) ms.length c) ms.length (msks ms))
    (hB : B ≤ w.heap.size) (hBg : B ≤ g) (hc : cn ≤ 16) (hs : ∀ m ∈ ms, m < 2 ^ cn) (hm : m < 2 ^ cn) (hf2 : Fr [] w w2) (hown : w4.ownsRow B 33 1 (.slice (some ⟨gB, 0, none⟩) (ms.length + 1) capB) (ms.length + 1) (msks ms ++ [.int .u32 m]))
    (hA : w.heap.size ≤ gA) (hgrow : (w2.alloc o).grownBy w4 (Value.slice (some ⟨gA, 0, none⟩) ms.length capA).ownBlock) (hat : (Value.slice (some ⟨gA, 0, none⟩) ms.length capA).ownBlock = some gB ∨ gB = w2.heap.size + 1)
    (h5 : w5 = w4.setCell ⟨g, 1, none⟩ (.slice (some ⟨gB, 0, none⟩) (ms.length + 1) capB)) : ∃ S', RefA B w5 g cn (ms ++ [m]) S' ∧ Stp [g, gL] S' w w5 := by
  subst h5
  have lg := hg.lt
  have hsz := hf2.size
  have gBw : w.heap.size ≤ gB := hat.elim (fun e => by simp [Value.ownBlock] at e; omega) fun e => by omega
  have hf4 : Fr [] w w4 := (hf2.alloc o).grown hgrow fun k hk => .inr (by simp [Value.ownBlock] at hk; omega)
  refine ⟨[g, gB], ⟨.slice (some ⟨gB, 0, none⟩) (ms.length + 1) capB, hBg, (hg.fr0 hf4).set_ 1 _, ?_, hc, by simp, ?_, by simp [Value.ownBlock]⟩, (hf4.any _).setCell (.inl (by simp)) _, ?_⟩
  · rw [List.length_append, List.length_singleton, msks, List.map_append]
    exact row_far hown (by simp [Value.ownBlock]; omega) _
  · intro x hx
    rcases List.mem_append.1 hx with hx | hx
    · exact hs x hx
    · rw [List.mem_singleton.1 hx]; exact hm
  · intro b hb
    simp at hb
    rcases hb with rfl | rfl
    · exact .inl (by simp)
    · exact .inr gBw
set_option maxRecDepth 100000 in
set_option maxHeartbeats 2000000 in
theorem rat_ok {B : Nat} {w : World} {g cn : Nat} {ms S : List Nat} (h : RefA B w g cn ms S) (hB : B ≤ w.heap.size) {m : Nat} (hm : m < 2 ^ cn) (hl : ms.length ≤ 1000000) :
    Calls Tryd.prog 19 #[.pointer (some ⟨g, 0, none⟩), .int .u32 m] w fun e w' => e = .returned (.tuple #[.int .i64 ((addm ms m).idxOf m : Nat), .int .i64 0]) ∧ ∃ S', RefA B w' g cn (addm ms m) S' ∧ Stp S S' w w' := by
  have hz := shr_small hm
  have H := hide h
  obtain ⟨gL, c, hg, hr, hc, hs, hBg, hpos, rfl⟩ := h.form
  have g0 := hg.at_ 0 (v := .int .i64 cn) rfl
  have g1 := hg.at_ 1 (v := .slice (some ⟨gL, 0, none⟩) ms.length c) rfl
  have lg := hg.lt
  have fg := hg.frozen 1
  have HH := hide (And.intro hg (And.intro hr (And.intro hs (And.intro hBg (And.intro hm hB)))))
  obtain ⟨i0, hi0, hz0, hz1, hz2⟩ := info_parts infoMask
  clear h hg hr hs hBg hm hB
  go_enter Tryd.func19, Tryd.ntmps19
  go_wp2_with fail
  go_loopw [6] (fun s6 wr => ∃ i : Nat, i ≤ ms.length ∧ s6 = .int .i64 i ∧ w = wr ∧ ∀ j, j < i → ms[j]? ≠ some m) (fun s6 _ => ms.length - (intOf s6).toNat)
  case atStart => exact ⟨0, by omega, rfl, rfl, fun j hj => absurd hj (Nat.not_lt_zero _)⟩
  case round =>
    obtain ⟨i, hi, rfl, rfl, hall⟩ := hrel
    by_cases hi1 : i < ms.length
    · obtain ⟨x, hx⟩ : ∃ x, ms[i]? = some x := ⟨_, List.getElem?_eq_getElem hi1⟩
      have k0 := row_cell HH.out.2.1 (i := i) (u := .int .u32 x) (by simp [msks, hx])
      have n0 : (0 : Int) ≤ (i : Int) := by omega
      have n1 : (i : Int) < (ms.length : Int) := by omega
      have Ha := hide (And.intro hall hx)
      clear hall hx
      by_cases he : x = m
      · subst he
        go_wp2_with fail
        go_ret2
        have hmem := List.mem_of_getElem? Ha.out.2
        have hidx : ms.idxOf x = i := by
          have hlt := List.idxOf_lt_length_of_mem hmem
          have h1 : ms[ms.idxOf x]? = some x := by rw [List.getElem?_eq_getElem hlt, List.getElem_idxOf]
          rcases Nat.lt_trichotomy (ms.idxOf x) i with h | h | h
          · exact absurd h1 (Ha.out.1 _ h)
          · exact h
          · exfalso
            have := List.not_of_lt_findIdx (p := (· == x)) (xs := ms) (i := i) (by simpa [List.idxOf] using h)
            rw [List.getElem?_eq_getElem hi1] at Ha
            have h2 := Option.some.inj Ha.out.2
            simp [h2] at this
        have ea : addm ms x = ms := if_pos hmem
        rw [ea, hidx]
        exact ⟨rfl, _, H.out, Fr.refl _ _, fun b hb => .inl hb⟩
      · have hne : ((x : Int) == (m : Int)) = false := by simp only [beq_eq_false_iff_ne, ne_eq]; omega
        have He := hide he
        clear he
        go_wp2_with fail
        go_roundw
        case rel =>
          refine ⟨i + 1, by omega, by go_num, trivial, fun j hj hjx => ?_⟩
          by_cases e : j = i
          · subst e
            rw [Ha.out.2] at hjx
            exact He.out (Option.some.inj hjx)
          · exact Ha.out.1 j (by omega) hjx
        case measure => simp [intOf]; omega
    · have hnm : m ∉ ms := fun hm => by
        obtain ⟨j, hj⟩ := List.mem_iff_getElem?.1 hm
        have := (List.getElem?_eq_some_iff.1 hj).1
        exact hall j (by omega) hj
      have Hnm := hide hnm
      clear hall hnm
      have e0 : Hid ((w.alloc (.cells #[] 33)).ownsRow B 33 1 (.slice (some ⟨w.heap.size, 0, none⟩) 0 0) 0 []) := hide (row_mk (Blk.new w 33 #[]) HH.out.2.2.2.2.2 (Nat.le_refl _) (by simp [maxLen]) rfl rfl)
      have hnews : Hid (∀ j v, (msks ms)[j]? = some v → (w.alloc (.cells #[] 33)).cell? ((⟨gL, 0, none⟩ : Addr).add j) = some v) := hide (row_news (row_fr HH.out.2.1 ((Fr.refl [] w).alloc _) (by simp)) 0 (fun j v hv => by rw [Nat.zero_add]; exact hv))
      have hone : ∀ v ∈ msks ms, v.oneCell' = true := by
        intro v hv
        obtain ⟨a, _, rfl⟩ := List.mem_map.1 hv
        rfl
      have hBw := HH.out.2.2.2.2.2
      have Hone := hide hone
      clear hone
      obtain ⟨i9, hi9, hz9, hs9, hb9⟩ := info_parts infoMask
      go_wp2_with (first | (at_builtin; refine wpList_append_lies _ rfl _ _ _ rfl B 33 i0 _ 1 4 Tryd.underlying22 hi0 hz0 hz1 hz2 rfl (by omega) (.slice (some ⟨w.heap.size, 0, none⟩) 0 0) 0 [] rfl e0.out ⟨gL, 0, none⟩ ms.length c (msks ms) rfl (by simp) hnews.out Hone.out (by omega) (by unfold maxLen; omega) (by omega) (by simp; omega) (w.heap.size + 1) (by simp) ?_; intro gA capA w2 hownA hgrowA hatA hltA; have hfA : Fr [] w w2 := ((Fr.refl [] w).alloc _).grown hgrowA (fun k hk => .inr (by simp [Value.ownBlock] at hk; omega)); simp only [Nat.zero_add, List.nil_append] at hownA; have HA := hide (And.intro hownA (And.intro hfA (at_new (B := w.heap.size) hatA (by simp [Value.ownBlock]) (by omega)))); have g1 := (HH.out.1.fr0 hfA).at_ 1 (v := .slice (some ⟨gL, 0, none⟩) ms.length c) rfl; have lg := (HH.out.1.fr0 hfA).lt; have fg := (HH.out.1.fr0 hfA).frozen 1; have hszA := hfA.size; clear hownA hgrowA hatA hfA; simp only [Nat.zero_add]) | (at_builtin; refine wpList_append_lies _ rfl _ _ _ rfl B 33 i9 _ 1 4 Tryd.underlying22 hi9 hz9 hs9 hb9 rfl (by omega) (.slice (some ⟨gA, 0, none⟩) ms.length capA) (ms.length) (msks ms) rfl ((HA.out.1.alloc _)) ⟨w2.heap.size, 0, none⟩ 1 1 [.int .u32 m] rfl rfl (World.news_of_block (cs := #[.int .u32 m]) (t := 33) (fr := (0, 0)) (Blk.new_at _ _ _ _ (by simp))) (by simp [Value.oneCell']) (by omega) (by unfold maxLen; omega) (by omega) (by simp; omega) (w2.heap.size + 1) (by simp) ?_; intro ag9 ac9 aw9 aown9 agrow9 aat9 alt9; have hf9 : Fr [] w aw9 := (HA.out.2.1.alloc _).grown agrow9 (fun k hk => .inr (by simp [Value.ownBlock] at hk; have := HA.out.2.2; omega)); have g2 := (HH.out.1.fr0 hf9).at_ 1 (v := .slice (some ⟨gL, 0, none⟩) ms.length c) rfl; have lg2 := (HH.out.1.fr0 hf9).lt; have fg2 := (HH.out.1.fr0 hf9).frozen 1; have g3 := ((HH.out.1.fr0 hf9).set_ 1 (.slice (some ⟨ag9, 0, none⟩) (ms.length + 1) ac9)).at_ 1 (v := .slice (some ⟨ag9, 0, none⟩) (ms.length + 1) ac9) rfl; have HE := hide (rat_end HH.out.1 HH.out.2.1 HH.out.2.2.2.2.2 HH.out.2.2.2.1 hc HH.out.2.2.1 HH.out.2.2.2.2.1 HA.out.2.1 aown9 HA.out.2.2 agrow9 aat9 rfl); clear aown9 agrow9 aat9 hf9))
      go_ret2
      have ea : addm ms m = ms ++ [m] := if_neg Hnm.out
      have ei : (ms ++ [m]).idxOf m = ms.length := by rw [List.idxOf_append, if_neg Hnm.out]; simp
      rw [ea, ei]
      exact ⟨rfl, HE.out⟩
end Go.Proofs.YtclmmfkbkaldlaaDoor

/- Package roll by contracts, the rest: New's refusal, List, a nil roll. -/
import Derived.Test.YtghffjlgiclieaaDoorRoll2
namespace Go.Proofs.YtghffjlgiclieaaDoor
open Go.RowKit

theorem new_err {K : List Nat} {B : Nat} {w : World} {ad : Nat → Addr} (hs : Sents K B w ad) (hK : 1 ∈ K) (n : Int) (hn : n < 0 ∨ 64 < n) :
    Calls Tryd.prog 7 #[.int .i64 n] w fun e w' => ∃ v, e = .returned (.tuple #[.pointer none, v]) ∧ NewErr w w' ad v 1 ∧ Fr [] w w' := by
  have c2 := hs.cell 1 hK
  simp only [gOf] at c2
  clear hs
  rcases hn with hn | hn
  all_goals
    go_enter Tryd.func7, Tryd.ntmps7
    go_wp2_with fail
    refine (at_sent _).mono ?_
    rintro e w' ⟨v, rfl, hn, hf⟩
    obtain ⟨t, a, rfl⟩ := hn.form
    have Hn := hide (And.intro hn hf)
    clear hn hf
    go_wp2
    go_ret2
    exact ⟨_, rfl, Hn.out.1, Hn.out.2⟩

theorem free_nil {K : List Nat} {B : Nat} {w : World} {ad : Nat → Addr} (hs : Sents K B w ad) (hK : 2 ∈ K) (i gen : Int) :
    Calls Tryd.prog 10 #[.pointer none, .agg #[.int .i64 i, .int .i64 gen]] w fun e w' => ∃ v, e = .returned v ∧ NewErr w w' ad v 2 ∧ Fr [] w w' := by
  have c2 := hs.cell 2 hK
  simp only [gOf] at c2
  have l2 := World.block_lt_of_cell? w _ c2
  clear hs
  go_enter Tryd.func10, Tryd.ntmps10
  go_wp2_with fail
  refine (at_sent _).mono ?_
  rintro e w' ⟨v, rfl, hn, hf⟩
  obtain ⟨t, a, rfl⟩ := hn.form
  have Hn := hide (And.intro hn hf)
  clear hn hf
  go_wp2
  go_ret
  exact ⟨_, rfl, Hn.out.1.elder (by simp), ((Fr.refl _ w).alloc _).trans Hn.out.2⟩
theorem alive_nil (w : World) (i gen : Int) : Calls Tryd.prog 12 #[.pointer none, .agg #[.int .i64 i, .int .i64 gen]] w fun e w' => e = .returned (.bool false) ∧ Fr [] w w' := by
  go_enter Tryd.func12, Tryd.ntmps12
  go_wp2_with fail
  go_quiet (fail)
  go_wp2
  go_ret
  refine ⟨rfl, ?_⟩
  (repeat (first | exact Fr.refl _ _ | apply Fr.drew | apply Fr.drewN | apply Fr.alloc | (refine Fr.setCell ?_ (by first | (left; simp [Value.ownBlock]; done) | (right; simp; omega) | (right; simp; done)) _)))
theorem count_nil (w : World) : Calls Tryd.prog 11 #[.pointer none] w fun e w' => e = .returned (.int .i64 0) ∧ w = w' := by
  go_enter Tryd.func11, Tryd.ntmps11
  go_wp2
  go_ret
  exact ⟨rfl, rfl⟩
theorem most_nil (w : World) : Calls Tryd.prog 13 #[.pointer none] w fun e w' => e = .returned (.int .i64 0) ∧ w = w' := by
  go_enter Tryd.func13, Tryd.ntmps13
  go_wp2
  go_ret
  exact ⟨rfl, rfl⟩
theorem list_nil (w : World) : Calls Tryd.prog 9 #[.pointer none] w fun e w' => e = .returned (.slice none 0 0) ∧ w = w' := by
  go_enter Tryd.func9, Tryd.ntmps9
  go_wp2
  go_ret
  exact ⟨rfl, rfl⟩

/-! ### List -/
/-- the cells of an entity -/
def encE (e : Nat × Int) : List Value := [.int .i64 e.1, .int .i64 e.2]
theorem encE_len : ∀ e, (encE e).length = 2 := fun _ => rfl
/-- the entities that are there -/
def listOf (ps : List (Int × Bool)) : List (Nat × Int) := ps.zipIdx.filterMap fun x => if x.1.2 then some (x.2, x.1.1) else none
theorem listOf_snoc (ps : List (Int × Bool)) (p : Int × Bool) : listOf (ps ++ [p]) = listOf ps ++ (if p.2 then [(ps.length, p.1)] else []) := by
  unfold listOf
  rw [List.zipIdx_append, List.filterMap_append]
  congr 1
  cases h : p.2 <;> simp [h]
theorem listOf_le (ps : List (Int × Bool)) : (listOf ps).length ≤ ps.length := by
  unfold listOf
  have := List.length_filterMap_le (fun x : (Int × Bool) × Nat => if x.1.2 then some (x.2, x.1.1) else none) ps.zipIdx
  simpa using this

theorem infoEntity : (Tryd.prog.info? 31).map (fun i => (i.zero, i.size, i.bytes)) = some (some (.agg #[.int .i64 0, .int .i64 0]), 2, 16) := by kernel_rfl

set_option maxRecDepth 100000 in
set_option maxHeartbeats 4000000 in
theorem list_calls {B : Nat} {w : World} {g : Nat} {ps : List (Int × Bool)} {row : List Nat} {S : List Nat} (h : RollR B w g ps row S) (hB : B ≤ w.heap.size) (hn : ps.length ≤ 1000000) :
    Calls Tryd.prog 9 #[.pointer (some ⟨g, 0, none⟩)] w fun e w' => ∃ v, e = .returned v ∧ w'.ownsRow B 31 2 v (listOf ps).length ((listOf ps).flatMap encE) ∧ Fr [] w w' ∧ ∀ b, v.ownBlock = some b → w.heap.size ≤ b := by
  obtain ⟨vp, vr, hBg, hg, hp, hr, rfl⟩ := h
  obtain ⟨i0, hi0, hz0, hz1, hz2⟩ := info_parts infoEntity
  rcases row_form hp with ⟨rfl, h0, _⟩ | ⟨gp, cp, rfl, hBp, lp, hcp, hmp⟩
  · have c0 := hg.at_ 0 (v := .slice none 0 0) (by rfl)
    have hps : ps = [] := List.eq_nil_of_length_eq_zero h0
    subst hps
    clear hg hp hr
    go_enter Tryd.func9, Tryd.ntmps9
    go_wp2_with fail
    go_loopw [2, 12] (fun s2 s wr => s2 = .slice none 0 0 ∧ s = .int .i64 0 ∧ w = wr) (fun _ _ _ => 0)
    case atStart => exact ⟨rfl, rfl, rfl⟩
    case round =>
      obtain ⟨rfl, rfl, rfl⟩ := hrel
      go_wp2_with fail
      go_ret
      exact ⟨_, rfl, World.ownsRow_nil _ _ _ _, Fr.refl _ _, by simp [Value.ownBlock]⟩
  · have c0 := hg.at_ 0 (v := .slice (some ⟨gp, 0, none⟩) ps.length cp) (by rfl)
    have lg := hg.lt
    have Hp := hide hp
    clear hg hp hr
    go_enter Tryd.func9, Tryd.ntmps9
    go_wp2_with fail
    go_loopw [2, 12] (fun s2 s wr => ∃ (k : Nat), k ≤ ps.length ∧ s = .int .i64 k ∧ wr.ownsRow B 31 2 s2 (listOf (ps.take k)).length ((listOf (ps.take k)).flatMap encE) ∧ Fr [] w wr ∧ (∀ b, s2.ownBlock = some b → w.heap.size ≤ b)) (fun _ s _ => ps.length - (intOf s).toNat)
    case atStart => exact ⟨0, by omega, rfl, World.ownsRow_nil _ _ _ _, Fr.refl _ _, by simp [Value.ownBlock]⟩
    case round =>
      obtain ⟨k, hk, rfl, hr, hf, hv⟩ := hrel
      by_cases hlt : k < ps.length
      · have hx : ps[k]? = some (ps[k].1, ps[k].2) := by simp [hlt]
        have hpr := row_fr Hp.out hf (by simp)
        have d0 := row_cell hpr (i := k * 2 + 0) (u := .int .i64 ps[k].1) (by rw [flat_get encPl_len hx 0 (by omega)]; rfl)
        have d1 := row_cell hpr (i := k * 2 + 1) (u := .bool ps[k].2) (by rw [flat_get encPl_len hx 1 (by omega)]; rfl)
        rw [Nat.add_zero] at d0
        have e1 := World.new_ne wr _ d0
        have e2 := World.block_lt_of_cell? wr _ d0
        have hsn : listOf (ps.take (k + 1)) = listOf (ps.take k) ++ (if ps[k].2 then [(k, ps[k].1)] else []) := by
          rw [List.take_succ_eq_append_getElem hlt, listOf_snoc, List.length_take, Nat.min_eq_left (by omega)]
        have hle := listOf_le (ps.take k)
        rw [List.length_take] at hle
        generalize hg1 : ps[k].1 = gen at *
        cases hb : ps[k].2 with
        | false =>
          rw [hb] at d1 hsn
          simp only [Bool.false_eq_true, if_false, List.append_nil] at hsn
          have Hall := hide (And.intro hr (And.intro hf (And.intro hv hsn)))
          clear hr hf hv hsn hb hx hpr hg1
          go_wp2_with fail
          obtain ⟨hr, hf, hv, hsn⟩ := Hall.out
          go_roundw
          case rel => exact ⟨k + 1, by omega, by go_num, by rw [hsn]; exact hr.alloc _, hf.alloc _, hv⟩
          case measure => simp [intOf]; omega
        | true =>
          rw [hb] at d1 hsn
          simp only [if_true] at hsn
          have Hall := hide (And.intro hr (And.intro hf (And.intro hv hsn)))
          have hsz := hf.size
          clear hr hf hv hsn hb hx hpr hg1
          go_wp2_with (at_builtin; refine wpList_append_lies _ rfl _ _ _ rfl B 31 i0 _ 2 16 Tryd.underlying36 hi0 hz0 hz1 hz2 rfl (by omega) (u2) ((listOf (ps.take k)).length) ((listOf (ps.take k)).flatMap encE) rfl ((Hall.out.1.alloc _).alloc _) ⟨wr.heap.size + 1, 0, none⟩ 1 1 [.int .i64 k, .int .i64 gen] rfl rfl (World.news_of_block (cs := #[.int .i64 k, .int .i64 gen]) (t := 31) (fr := (0, 0)) (Blk.new_at _ _ _ _ (by simp))) (by simp [Value.oneCell']) (by omega) (by unfold maxLen; omega) (by omega) (by simp; omega) (wr.heap.size + 1 + 1) (by simp) ?_; intro gg cap w3 hown3 hgrow hat hlt3)
          obtain ⟨hr, hf, hv, hsn⟩ := Hall.out
          go_roundw
          case rel =>
            refine ⟨k + 1, by omega, by go_num, ?_, ((hf.alloc _).alloc _).grown hgrow (fun x hx => .inr (hv x hx)), ?_⟩
            · rw [hsn]
              simpa [encE] using hown3
            · intro b hb
              have : gg = b := by simpa [Value.ownBlock] using hb
              rcases hat with hat | hat
              · exact hv _ (by rw [hat, this])
              · omega
          case measure => simp [intOf]; omega
      · have hkn : k = ps.length := by omega
        subst hkn
        have Hall := hide (And.intro hr (And.intro hf hv))
        clear hr hf hv
        go_wp2_with fail
        go_ret
        have := Hall.out.1
        rw [List.take_length] at this
        exact ⟨_, rfl, this, Hall.out.2.1, Hall.out.2.2⟩
end Go.Proofs.YtghffjlgiclieaaDoor

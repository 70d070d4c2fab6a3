/- Package pasodobleref06 by contracts: List, Same. -/
import Derived.Test.YtghffjlgiclieaaDoorRef2
namespace Go.Proofs.YtghffjlgiclieaaDoor
open Go.RowKit

set_option maxRecDepth 100000 in
set_option maxHeartbeats 2000000 in
theorem rlist_calls {B : Nat} {w : World} {g : Nat} {ps : List (Int × Bool)} {row : List Nat} {S : List Nat} (h : RefR B w g ps row S) (hn : ps.length ≤ 1000000) :
    Calls Tryd.prog 20 #[.pointer (some ⟨g, 0, none⟩)] w fun e w' => ∃ v, e = .returned v ∧ w'.ownsRow w.heap.size 31 2 v (listOf ps).length ((listOf ps).flatMap encE) ∧ Fr [] w w' := by
  obtain ⟨vg, vi, vf, hB, hg, hr1, hr2, hr3, h4, rfl⟩ := h
  obtain ⟨i0, hi0, hz0, hz1, hz2⟩ := info_parts infoEntity
  have lg := hg.lt
  have hv : ∃ A c, vg = .slice A ps.length c := by
    rcases row_form hr1 with ⟨rfl, h2, _⟩ | ⟨gp, cp, rfl, _⟩
    · exact ⟨_, _, by rw [h2]⟩
    · exact ⟨_, _, rfl⟩
  obtain ⟨A, c, rfl⟩ := hv
  have c0 := hg.at_ 0 (v := .slice A ps.length c) (by rfl)
  have c1 := hg.at_ 1 (v := vi) (by rfl)
  have hO : (w.alloc (.cells #[] 31)).ownsRow w.heap.size 31 2 (.slice (some ⟨w.heap.size, 0, none⟩) 0 0) (listOf (ps.take 0)).length ((listOf (ps.take 0)).flatMap encE) := row_mk (Blk.new w _ _) (Nat.le_refl _) (Nat.le_refl _) (by simp [maxLen]) rfl rfl
  have Hp := hide (And.intro hg (And.intro hr1 hr2))
  have HO := hide hO
  clear hg hr1 hr2 hr3 h4 hO
  go_enter Tryd.func20, Tryd.ntmps20
  go_wp2_with fail
  go_loopw [3, 4] (fun s3 s wr => ∃ (k : Nat), k ≤ ps.length ∧ s = .int .i64 k ∧ wr.ownsRow w.heap.size 31 2 s3 (listOf (ps.take k)).length ((listOf (ps.take k)).flatMap encE) ∧ Fr [] w wr) (fun _ s _ => ps.length - (intOf s).toNat)
  case atStart => exact ⟨0, by omega, rfl, HO.out, (Fr.refl _ _).alloc _⟩
  case round =>
    obtain ⟨k, hk, rfl, hr, hf⟩ := hrel
    have hg1 := Hp.out.1.fr0 hf
    have c0 := hg1.at_ 0 (v := .slice A ps.length c) (by rfl)
    have c1 := hg1.at_ 1 (v := vi) (by rfl)
    have lg1 := hg1.lt
    by_cases hlt : k < ps.length
    · rcases row_form Hp.out.2.1 with ⟨_, h2, _⟩ | ⟨gg, cg, hgg, _, lgg, hcg, hmg⟩
      · omega
      rcases row_form Hp.out.2.2 with ⟨_, h2, _⟩ | ⟨gi, ci, rfl, _, lgi, hci, hmi⟩
      · omega
      rw [hgg] at Hp c0
      have Hgg := hide hgg
      clear hgg
      have hx : ps[k]? = some (ps[k].1, ps[k].2) := by simp [hlt]
      have d0 := row_cell (row_fr Hp.out.2.1 hf (by simp)) (gens_get hx)
      have d1 := row_cell (row_fr Hp.out.2.2 hf (by simp)) (is_get hx)
      have hsn : listOf (ps.take (k + 1)) = listOf (ps.take k) ++ (if ps[k].2 then [(k, ps[k].1)] else []) := by
        rw [List.take_succ_eq_append_getElem hlt, listOf_snoc, List.length_take, Nat.min_eq_left (by omega)]
      have hle := listOf_le (ps.take k)
      rw [List.length_take] at hle
      have lgi1 := World.block_lt_of_cell? wr _ d1
      have lgg1 := World.block_lt_of_cell? wr _ d0
      have k0 : (0 : Int) ≤ (k : Int) := by omega
      have k1 : (k : Int) < (ps.length : Int) := by omega
      have hsz := hf.size
      generalize hg1' : ps[k].1 = gen at *
      cases hb : ps[k].2 with
      | false =>
        rw [hb] at d1 hsn
        simp only [Bool.false_eq_true, if_false, List.append_nil] at hsn
        have Hall := hide (And.intro hr (And.intro hf hsn))
        clear hr hf hsn hb hx hg1 hg1' hci hmi hcg hmg
        go_wp2_with fail
        obtain ⟨hr, hf, hsn⟩ := Hall.out
        go_roundw
        case rel => exact ⟨k + 1, by omega, by go_num, by rw [hsn]; exact hr, hf⟩
        case measure => simp [intOf]; omega
      | true =>
        rw [hb] at d1 hsn
        simp only [if_true] at hsn
        have Hall := hide (And.intro hr (And.intro hf hsn))
        clear hr hf hsn hb hx hg1 hg1' hci hmi hcg hmg
        go_wp2_with (at_builtin; refine wpList_append_lies _ rfl _ _ _ rfl w.heap.size 31 i0 _ 2 16 Tryd.underlying36 hi0 hz0 hz1 hz2 rfl (by omega) (u3) ((listOf (ps.take k)).length) ((listOf (ps.take k)).flatMap encE) rfl ((Hall.out.1.alloc _)) ⟨wr.heap.size, 0, none⟩ 1 1 [.int .i64 k, .int .i64 gen] rfl rfl (World.news_of_block (cs := #[.int .i64 k, .int .i64 gen]) (t := 31) (fr := (0, 0)) (Blk.new_at _ _ _ _ (by simp))) (by simp [Value.oneCell']) (by omega) (by unfold maxLen; omega) (by omega) (by simp; omega) (wr.heap.size + 1) (by simp) ?_; intro gg cap w3 hown3 hgrow hat hlt3)
        obtain ⟨hr, hf, hsn⟩ := Hall.out
        go_roundw
        case rel =>
          refine ⟨k + 1, by omega, by go_num, ?_, (hf.alloc _).grown hgrow (fun b hb => .inr (row_lt hr hb).2)⟩
          rw [hsn, List.length_append, List.length_singleton, List.flatMap_append, List.flatMap_singleton]
          exact hown3
        case measure => simp [intOf]; omega
    · obtain rfl : k = ps.length := by omega
      rw [List.take_length] at hr
      have Hall := hide (And.intro hr hf)
      clear hr hf hg1
      go_wp2_with fail
      go_ret
      exact ⟨_, rfl, Hall.out.1, Hall.out.2⟩

/-! ### Same -/
theorem neq_entity (a b c d : Int) (W : World) : (binOp .neq 31 (.agg #[.int .i64 a, .int .i64 b]) (.agg #[.int .i64 c, .int .i64 d])).run Tryd.prog W = .ok (.bool (!decide (a = c ∧ b = d))) W := by
  by_cases h1 : a = c <;> by_cases h2 : b = d <;> simp [go_sem, h1, h2]

theorem esame_len {w : World} {va vb : Value} {n m ca cb : Nat} {A Bd : Option Addr} (hl : n ≤ 1000000) (hm : m ≤ 1000000) (hne : n ≠ m) (hva : va = .slice A n ca) (hvb : vb = .slice Bd m cb) :
    Calls Tryd.prog 21 #[va, vb] w fun e w' => e = .returned (.bool false) ∧ w = w' := by
  subst hva; subst hvb
  have h1 : (!((n : Int) == (m : Int))) = true := by simp; omega
  have h2 : ((n : Int) == (m : Int)) = false := by simp; omega
  go_enter Tryd.func21, Tryd.ntmps21
  go_wp2_with fail
  all_goals (go_ret; exact ⟨rfl, rfl⟩)

set_option maxRecDepth 100000 in
set_option maxHeartbeats 2000000 in
theorem esame_calls {B B' : Nat} {w : World} {va vb : Value} {xs ys : List (Nat × Int)} (ha : w.ownsRow B 31 2 va xs.length (xs.flatMap encE)) (hb : w.ownsRow B' 31 2 vb ys.length (ys.flatMap encE)) (hla : xs.length ≤ 1000000) (hlb : ys.length ≤ 1000000) :
    Calls Tryd.prog 21 #[va, vb] w fun e w' => e = .returned (.bool (decide (xs = ys))) ∧ Fr [] w w' := by
  have fa : ∃ A c, va = .slice A xs.length c := by
    rcases row_form ha with ⟨rfl, h0, _⟩ | ⟨g, c, rfl, _⟩
    · exact ⟨_, _, by rw [h0]⟩
    · exact ⟨_, _, rfl⟩
  have fb : ∃ A c, vb = .slice A ys.length c := by
    rcases row_form hb with ⟨rfl, h0, _⟩ | ⟨g, c, rfl, _⟩
    · exact ⟨_, _, by rw [h0]⟩
    · exact ⟨_, _, rfl⟩
  by_cases hne : xs.length = ys.length
  · by_cases h0 : xs.length = 0
    · obtain ⟨A, c, rfl⟩ := fa
      obtain ⟨A', c', rfl⟩ := fb
      have e1 : xs = [] := List.eq_nil_of_length_eq_zero h0
      have e2 : ys = [] := List.eq_nil_of_length_eq_zero (by omega)
      subst e1; subst e2
      clear ha hb hne h0
      go_enter Tryd.func21, Tryd.ntmps21
      go_wp2_with fail
      go_loopw [5] (fun s wr => s = .int .i64 0 ∧ w = wr) (fun _ _ => 0)
      case atStart => exact ⟨rfl, rfl⟩
      case round =>
        obtain ⟨rfl, rfl⟩ := hrel
        go_wp2_with fail
        go_ret
        exact ⟨by simp, Fr.refl _ _⟩
    · rcases row_form ha with ⟨_, h0', _⟩ | ⟨ga, ca, rfl, _, la, _⟩
      · omega
      rcases row_form hb with ⟨_, h0', _⟩ | ⟨gb, cb, rfl, _, lb, _⟩
      · omega
      have Ha := hide ha
      have Hb := hide hb
      obtain ⟨n, hn⟩ : ∃ n, n = xs.length := ⟨_, rfl⟩
      have Hn := hide (And.intro hn hne)
      rw [← hne, ← hn]
      rw [← hn] at hla
      clear ha hb fa fb hne h0 hlb hn
      have hq : ((n : Int) == (n : Int)) = true := by simp
      go_enter Tryd.func21, Tryd.ntmps21
      go_wp2_with fail
      go_loopw [5] (fun s wr => ∃ k : Nat, k ≤ n ∧ s = .int .i64 k ∧ xs.take k = ys.take k ∧ Fr [] w wr) (fun s _ => n - (intOf s).toNat)
      case atStart => exact ⟨0, by omega, rfl, by simp, Fr.refl _ _⟩
      case round =>
        obtain ⟨k, hk, rfl, ht, hf⟩ := hrel
        obtain ⟨hn, hne⟩ := Hn.out
        by_cases hkn : k < n
        · have xa : xs[k]? = some (xs[k]'(by omega)) := by simp
          have xb : ys[k]? = some (ys[k]'(by omega)) := by simp
          have hs1 : xs.take (k + 1) = xs.take k ++ [xs[k]'(by omega)] := by rw [List.take_succ_eq_append_getElem (by omega)]
          have hs2 : ys.take (k + 1) = ys.take k ++ [ys[k]'(by omega)] := by rw [List.take_succ_eq_append_getElem (by omega)]
          have k0 : (0 : Int) ≤ (k : Int) := by omega
          have k1 : (k : Int) < (n : Int) := by omega
          generalize xs[k]'_ = a at *
          generalize ys[k]'_ = b at *
          obtain ⟨a1, a2⟩ := a
          obtain ⟨b1, b2⟩ := b
          have c1 := row_cell (row_fr Ha.out hf (by simp)) (i := k * 2 + 0) (u := .int .i64 a1) (by rw [flat_get encE_len xa 0 (by omega)]; rfl)
          have c2 := row_cell (row_fr Ha.out hf (by simp)) (i := k * 2 + 1) (u := .int .i64 a2) (by rw [flat_get encE_len xa 1 (by omega)]; rfl)
          have c3 := row_cell (row_fr Hb.out hf (by simp)) (i := k * 2 + 0) (u := .int .i64 b1) (by rw [flat_get encE_len xb 0 (by omega)]; rfl)
          have c4 := row_cell (row_fr Hb.out hf (by simp)) (i := k * 2 + 1) (u := .int .i64 b2) (by rw [flat_get encE_len xb 1 (by omega)]; rfl)
          rw [Nat.add_zero] at c1 c3
          have K := hide (And.intro ht (And.intro hf (And.intro hs1 (And.intro hs2 (And.intro xa xb)))))
          have Q := neq_entity a1 a2 b1 b2
          clear ht hf hs1 hs2 xa xb hn hne
          by_cases hab : a1 = b1 ∧ a2 = b2
          · obtain ⟨e1, e2⟩ := hab
            have hd : decide ((a1 : Int) = b1 ∧ a2 = b2) = true := by simp [e1, e2]
            rw [hd] at Q
            have Hab := hide (And.intro e1 e2)
            clear e1 e2 hd
            go_wp2_with fail
            go_quiet (fail)
            go_wp2_with fail
            go_roundw
            case rel => exact ⟨k + 1, by omega, by go_num, by rw [K.out.2.2.1, K.out.2.2.2.1, K.out.1, Hab.out.1, Hab.out.2], K.out.2.1.drewN _⟩
            case measure => simp [intOf]; omega
          · have hd : decide ((a1 : Int) = b1 ∧ a2 = b2) = false := by
              rw [decide_eq_false_iff_not]
              rintro ⟨e1, e2⟩
              exact hab ⟨by omega, e2⟩
            rw [hd] at Q
            have Hab := hide hab
            clear hab hd
            go_wp2_with fail
            go_quiet (fail)
            go_wp2_with fail
            go_ret
            refine ⟨ret_eq (bool_eq ?_), K.out.2.1.drewN _⟩
            symm
            rw [decide_eq_false_iff_not]
            rintro rfl
            have e := K.out.2.2.2.2.1.symm.trans K.out.2.2.2.2.2
            simp only [Option.some.injEq, Prod.mk.injEq] at e
            exact Hab.out e
        · have hkn' : k = n := by omega
          have hfin : xs = ys := by
            rw [List.take_of_length_le (by omega), List.take_of_length_le (by omega)] at ht
            exact ht
          have Hf := hide (And.intro hf hfin)
          clear hf hfin ht hkn' hn hne
          go_wp2_with fail
          go_ret
          exact ⟨ret_eq (bool_eq (by simp [Hf.out.2])), Hf.out.1⟩
  · obtain ⟨A, c, rfl⟩ := fa
    obtain ⟨A', c', rfl⟩ := fb
    refine (esame_len hla hlb hne rfl rfl).mono ?_
    rintro e w' ⟨rfl, rfl⟩
    refine ⟨ret_eq (bool_eq ?_), Fr.refl _ _⟩
    symm
    rw [decide_eq_false_iff_not]
    rintro rfl
    exact hne rfl
end Go.Proofs.YtghffjlgiclieaaDoor

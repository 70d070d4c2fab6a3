/- The reference's badges by contracts: ID, List. -/
import Derived.Test.YtpipgkglacmoeaaDoorRefB
import Derived.Test.YtpipgkglacmoeaaDoorBAwake
namespace Go.Proofs.YtpipgkglacmoeaaDoor
open Go.RowKit

theorem infoInt : (Tryd.prog.info? 3).map (fun i => (i.zero, i.size, i.bytes)) = some (some (.int .i64 0), 1, 8) := by kernel_rfl
set_option maxRecDepth 100000 in
set_option maxHeartbeats 4000000 in
theorem rid_calls {B : Nat} {w : World} {g : Nat} {ls : List (Int × Ent)} {nx : Int} {S : List Nat} (h : RR B w g ls nx S) (hl : ls.length ≤ 1000000) (e : Ent) :
    Calls Tryd.prog 25 #[.pointer (some ⟨g, 0, none⟩), encE e] w fun e' w' => e' = .returned (.tuple #[.int .i64 ((idOf ls e).getD 0), .bool (idOf ls e).isSome]) ∧ Fr [] w w' := by
  obtain ⟨a1, a2⟩ := e
  obtain ⟨A, c, g0, -, lg, -, hcell⟩ := h.see
  have Hc := hide hcell
  clear h hcell
  simp only [encE]
  go_enter Tryd.func25, Tryd.ntmps25
  go_wp2_with fail
  have hf0 : Fr [] w (w.alloc (.cells #[.int .i64 a1, .int .i64 a2] 27)) := (Fr.refl _ _).alloc _
  have hb0 := Blk.new w 27 #[.int .i64 a1, .int .i64 a2]
  generalize World.alloc w _ = w1 at hf0 hb0 ⊢
  have lb := hb0.lt
  have b0 := hb0.at_ 0 (v := .int .i64 a1) rfl
  have b1 := hb0.at_ 1 (v := .int .i64 a2) rfl
  have nbg : w.heap.size ≠ g := by omega
  have c0 := (hf0.cell (p := ⟨g, 0, none⟩) lg (by simp)).trans g0
  have lg1 := Nat.lt_of_lt_of_le lg hf0.size
  have Hf0 := hide hf0
  have Hb0 := hide hb0
  clear g0 hf0 hb0
  go_loopw [6] (fun s6 wr => ∃ j : Nat, wr = w1.drewN j ∧ ∃ k : Nat, k ≤ ls.length ∧ s6 = .int .i64 k ∧ ∀ j y, j < k → ls[j]? = some y → y.2 ≠ (a1, a2)) (fun s6 _ => ls.length - (intOf s6).toNat)
  case atStart => exact ⟨0, rfl, 0, by omega, rfl, fun j y hj => by omega⟩
  case round =>
    obtain ⟨q, rfl, k, hk, rfl, hp⟩ := hrel
    by_cases hkl : k < ls.length
    · obtain ⟨x, hx⟩ : ∃ x, ls[k]? = some x := ⟨_, List.getElem?_eq_getElem hkl⟩
      obtain ⟨b, rfl, lb2, x0, x1, x2⟩ := Hc.out k x hx
      have k0 : (0 : Int) ≤ (k : Int) := by omega
      have k1 : (k : Int) < (ls.length : Int) := by omega
      have nb2 : w.heap.size ≠ b := by omega
      replace x0 := (Hf0.out.cell (p := ⟨b, k * 3, none⟩) lb2 (by simp)).trans x0
      replace x1 := (Hf0.out.cell (p := ⟨b, k * 3 + 1, none⟩) lb2 (by simp)).trans x1
      replace x2 := (Hf0.out.cell (p := ⟨b, k * 3 + 2, none⟩) lb2 (by simp)).trans x2
      have Hp := hide hp
      have Hx := hide hx
      clear hp hx
      obtain ⟨d, e1, e2⟩ := x
      simp only at x0 x1 x2
      have he : ∀ W, (binOp .eql 27 (.agg #[.int .i64 e1, .int .i64 e2]) (.agg #[.int .i64 a1, .int .i64 a2])).run Tryd.prog W = .ok (.bool (decide ((e1, e2) = (a1, a2)))) W := fun W => eql_ent (e1, e2) (a1, a2) W
      by_cases hd : (e1, e2) = (a1, a2)
      · have f : decide ((e1, e2) = (a1, a2)) = true := by simpa using hd
        rw [f] at he
        have Hown := hide (id_at Hx.out hd Hp.out)
        clear hd f
        go_wp2_with fail
        go_quiet (fail)
        go_wp2_with fail
        go_ret2
        refine ⟨by rw [Hown.out]; rfl, Hf0.out.drewN _⟩
      · have f : decide ((e1, e2) = (a1, a2)) = false := by simpa using hd
        rw [f] at he
        have Hd := hide hd
        clear hd f
        go_wp2_with fail
        go_quiet (fail)
        go_wp2_with fail
        go_roundw
        case rel =>
          refine ⟨_, rfl, k + 1, by omega, by go_num, fun j y hj hy => ?_⟩
          by_cases hjk : j = k
          · subst hjk; rw [Hx.out] at hy; obtain rfl := Option.some.inj hy; exact Hd.out
          · exact Hp.out j y (by omega) hy
        case measure => simp [intOf]; omega
    · obtain rfl : k = ls.length := by omega
      have hown := id_no (ls := ls) (e := (a1, a2)) fun j y hy => hp j y (List.getElem?_eq_some_iff.1 hy).1 hy
      have Hown := hide hown
      clear hp hown
      have k1 : ¬ (ls.length : Int) < (ls.length : Int) := by omega
      go_wp2_with fail
      go_ret2
      refine ⟨by rw [Hown.out]; rfl, Hf0.out.drewN _⟩
set_option maxRecDepth 100000 in
set_option maxHeartbeats 4000000 in
theorem rlist_calls {B : Nat} {w : World} {g : Nat} {ls : List (Int × Ent)} {nx : Int} {S : List Nat} (h : RR B w g ls nx S) (hl : ls.length ≤ 1000000) :
    Calls Tryd.prog 28 #[.pointer (some ⟨g, 0, none⟩)] w fun e w' => ∃ v, e = .returned v ∧ w'.ownsRow w.heap.size 3 1 v ls.length (ints (ls.map (·.1))) ∧ Fr [] w w' := by
  obtain ⟨A, c, g0, -, lg, -, hcell⟩ := h.see
  have Hc := hide hcell
  have Hg := hide g0
  clear h hcell g0
  obtain ⟨i0, hi0, hz0, hs0, hb0⟩ := info_parts infoInt
  have HO := hide (row_mk (Blk.new w _ _) (Nat.le_refl _) (Nat.le_refl _) (by simp [maxLen]) rfl rfl : (w.alloc (.cells #[] 3)).ownsRow w.heap.size 3 1 (.slice (some ⟨w.heap.size, 0, none⟩) 0 0) ((ls.take 0).map (·.1)).length (ints ((ls.take 0).map (·.1))))
  go_enter Tryd.func28, Tryd.ntmps28
  go_wp2_with fail
  go_loopw [3, 4] (fun s3 s4 wr => ∃ k : Nat, k ≤ ls.length ∧ s4 = .int .i64 k ∧ wr.ownsRow w.heap.size 3 1 s3 ((ls.take k).map (·.1)).length (ints ((ls.take k).map (·.1))) ∧ Fr [] w wr) (fun _ s4 _ => ls.length - (intOf s4).toNat)
  case atStart => exact ⟨0, by omega, rfl, HO.out, (Fr.refl _ _).alloc _⟩
  case round =>
    obtain ⟨k, hk, rfl, hr, hf⟩ := hrel
    have c0 := (hf.cell (p := ⟨g, 0, none⟩) lg (by simp)).trans Hg.out
    have lg1 := Nat.lt_of_lt_of_le lg hf.size
    have hsz := hf.size
    have ngw : g ≠ wr.heap.size := by omega
    by_cases hkl : k < ls.length
    · obtain ⟨x, hx⟩ : ∃ x, ls[k]? = some x := ⟨_, List.getElem?_eq_getElem hkl⟩
      obtain ⟨b, rfl, lb2, x0, -, -⟩ := Hc.out k x hx
      have k0 : (0 : Int) ≤ (k : Int) := by omega
      have k1 : (k : Int) < (ls.length : Int) := by omega
      replace x0 := (hf.cell (p := ⟨b, k * 3, none⟩) lb2 (by simp)).trans x0
      have lb3 := Nat.lt_of_lt_of_le lb2 hsz
      have hln : ((ls.take k).map (·.1)).length = k := by rw [List.length_map, List.length_take]; omega
      rw [hln] at hr
      have Hr := hide hr
      have Hf := hide hf
      have Hx := hide hx
      clear hr hf hx hln
      go_wp2_with (at_builtin; refine wpList_append_lies _ rfl _ _ _ rfl w.heap.size 3 i0 _ 1 8 Tryd.underlying38 hi0 hz0 hs0 hb0 rfl (by omega) (u3) (k) (ints ((ls.take k).map (·.1))) rfl ((Hr.out.alloc _)) ⟨wr.heap.size, 0, none⟩ 1 1 [.int .i64 x.1] rfl rfl (World.news_of_block (cs := #[.int .i64 x.1]) (t := 3) (fr := (0, 0)) (Blk.new_at _ _ _ _ (by simp))) (by simp [Value.oneCell']) (by omega) (by unfold maxLen; omega) (by omega) (by simp; omega) (wr.heap.size + 1) (by simp) ?_; intro ag0 ac0 aw0 aown0 agrow0 aat0 alt0)
      go_roundw
      case rel =>
        refine ⟨k + 1, by omega, by go_num, ?_, (Hf.out.alloc _).grown agrow0 (fun b hb => .inr (row_lt Hr.out hb).2)⟩
        have e1 : ((ls.take (k + 1)).map (·.1)).length = k + 1 := by rw [List.length_map, List.length_take]; omega
        have e2 : ints ((ls.take (k + 1)).map (·.1)) = ints ((ls.take k).map (·.1)) ++ [.int .i64 x.1] := by
          rw [List.take_add_one, Hx.out]; simp [ints]
        rw [e1, e2]
        exact aown0
      case measure => simp [intOf]; omega
    · obtain rfl : k = ls.length := by omega
      rw [List.take_length, List.length_map] at hr
      have Hr := hide hr
      have Hf := hide hf
      clear hr hf
      have k1 : ¬ (ls.length : Int) < (ls.length : Int) := by omega
      go_wp2_with fail
      go_ret
      exact ⟨_, rfl, Hr.out, Hf.out⟩
end Go.Proofs.YtpipgkglacmoeaaDoor

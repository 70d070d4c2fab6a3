/- edge: where an edge of a node leads; it is remembered. -/
import Derived.Test.YtclmmfkbkaldlaaDoorAtlOps
import Derived.Deep.RegionHeld3
namespace Go.Proofs.YtclmmfkbkaldlaaDoor
open Go.RowKit

theorem map_set_same {α β : Type} {f : α → β} {l : List α} {n : Nat} {x y : α} (hx : l[n]? = some x) (hf : f y = f x) : (l.set n y).map f = l.map f := by
  rw [List.map_set, hf]
  exact set_same (by simp [hx])
theorem mem_set_of {α : Type} {l : List α} {n : Nat} {y z : α} (hz : z ∈ l.set n y) : z = y ∨ ∃ i, i ≠ n ∧ l[i]? = some z := by
  obtain ⟨i, hi⟩ := List.mem_iff_getElem?.1 hz
  rw [List.getElem?_set] at hi
  by_cases h : n = i
  · rw [if_pos h] at hi
    split at hi
    · exact .inl (Option.some.inj hi).symm
    · cases hi
  · rw [if_neg h] at hi
    exact .inr ⟨i, fun e => h e.symm, hi⟩
theorem AtlS.turned {B : Nat} {w w' : World} {g cn bm : Nat} {vN : Value} {ns : List (Nat × Nd)} (h : AtlS B w g cn bm vN ns) {n : Nat} {x : Nat × Nd} (hx : ns[n]? = some x) {y : Nd} (hm : y.m = x.2.m)
    (hf : Fr [x.1] w w') (hy : Blk w' x.1 75 (ndCells y)) (hok : y.Ok cn (ns.map (·.2.m))) : AtlS B w' g cn bm vN (ns.set n (x.1, y)) := by
  have hnd := h.apart
  simp only [List.nodup_cons, List.mem_cons, List.mem_append, Option.mem_toList, List.nodup_append, not_or] at hnd
  obtain ⟨⟨n1, n2, n3⟩, ⟨n4, n5⟩, n6, n7, n8⟩ := hnd
  have hx1 : x.1 ∈ ns.map (·.1) := List.mem_map_of_mem (List.mem_of_getElem? hx)
  have e1 : (ns.set n (x.1, y)).map (·.1) = ns.map (·.1) := map_set_same hx rfl
  have e2 : (ns.set n (x.1, y)).map (·.2.m) = ns.map (·.2.m) := map_set_same hx hm
  have e3 : (ns.set n (x.1, y)).map (fun x => Value.pointer (some ⟨x.1, 0, none⟩)) = ns.map fun x => Value.pointer (some ⟨x.1, 0, none⟩) := map_set_same hx rfl
  refine ⟨h.ge, h.blk.fr hf (fun e => n3 (by rw [List.mem_singleton.1 e]; exact hx1)), ?_, ?_, h.mge, ?_, h.cn16, ?_, ?_, ?_, ?_⟩
  · rw [List.length_set, e3]
    exact row_fr h.row hf fun k hk e => n8 k hk x.1 hx1 (List.mem_singleton.1 e)
  · intro z hz
    rcases mem_set_of hz with rfl | ⟨i, hi, hzi⟩
    · exact ⟨hy, (h.nd x (List.mem_of_getElem? hx)).2⟩
    · have hzm := List.mem_of_getElem? hzi
      refine ⟨(h.nd z hzm).1.fr hf ?_, (h.nd z hzm).2⟩
      intro e
      have e' : z.1 = x.1 := by simpa using e
      have hi1 : i < (ns.map (·.1)).length := by rw [List.length_map]; exact (List.getElem?_eq_some_iff.1 hzi).1
      exact hi ((List.getElem?_inj hi1 n7).1 (by simp [hzi, hx, e']))
  · rw [e2]
    exact h.map.fr hf (fun e => n5 (by rw [List.mem_singleton.1 e]; exact hx1))
  · rw [e1]; exact h.apart
  · rw [e2]; exact h.sets
  · intro z hz
    rcases mem_set_of hz with rfl | ⟨i, hi, hzi⟩
    · show y.m < _
      rw [hm]; exact h.small x (List.mem_of_getElem? hx)
    · exact h.small z (List.mem_of_getElem? hzi)
  · intro z hz
    rw [e2]
    rcases mem_set_of hz with rfl | ⟨i, hi, hzi⟩
    · exact hok
    · exact h.ok z (List.mem_of_getElem? hzi)
theorem blks_set {g bm : Nat} {vN : Value} {ns : List (Nat × Nd)} {n : Nat} {x : Nat × Nd} (hx : ns[n]? = some x) (y : Nd) : blks g bm vN (ns.set n (x.1, y)) = blks g bm vN ns := by
  unfold blks; rw [map_set_same (f := fun x : Nat × Nd => x.1) (y := (x.1, y)) hx rfl]
theorem set_get {l : List Int} {c k : Nat} (hc : c < l.length) (v : Int) : (l.set c v)[k]? = if c = k then some v else l[k]? := by
  rw [List.getElem?_set]; split
  · simp [hc]
  · rfl
theorem AtlS.setA {B : Nat} {w : World} {g cn bm : Nat} {vN : Value} {ns : List (Nat × Nd)} (h : AtlS B w g cn bm vN ns) {n : Nat} {x : Nat × Nd} (hx : ns[n]? = some x) {c j : Nat} (hc : c < cn) (hj : (ns.map (·.2.m))[j]? = some (wth x.2.m c)) :
    AtlS B (w.setCell ⟨x.1, 1 + c, none⟩ (.int .i64 j)) g cn bm vN (ns.set n (x.1, { x.2 with a := x.2.a.set c j })) := by
  have hxm := List.mem_of_getElem? hx
  have ok := h.ok x hxm
  have c16 := h.cn16
  have lc : c < x.2.a.length := by rw [ok.la]; omega
  refine h.turned hx rfl ((Fr.refl _ w).setCell (.inl (by simp)) _) ?_ ⟨by simp [ok.la], ok.lb, fun k hk => ?_, ok.eb⟩
  · have h1 := (h.nd x hxm).1.set_ (1 + c) (.int .i64 j)
    rwa [ndCells_setA lc] at h1
  · show (x.2.a.set c j)[k]? = _ ∨ ∃ i : Nat, (x.2.a.set c j)[k]? = _ ∧ _
    rw [set_get lc]
    by_cases e : c = k
    · subst e
      rw [if_pos rfl]
      exact .inr ⟨j, rfl, hj⟩
    · rw [if_neg e]
      exact ok.ea k hk
theorem AtlS.setB {B : Nat} {w : World} {g cn bm : Nat} {vN : Value} {ns : List (Nat × Nd)} (h : AtlS B w g cn bm vN ns) {n : Nat} {x : Nat × Nd} (hx : ns[n]? = some x) {c j : Nat} (hc : c < cn) (hj : (ns.map (·.2.m))[j]? = some (wout x.2.m c)) :
    AtlS B (w.setCell ⟨x.1, 17 + c, none⟩ (.int .i64 j)) g cn bm vN (ns.set n (x.1, { x.2 with b := x.2.b.set c j })) := by
  have hxm := List.mem_of_getElem? hx
  have ok := h.ok x hxm
  have c16 := h.cn16
  have lc : c < x.2.b.length := by rw [ok.lb]; omega
  refine h.turned hx rfl ((Fr.refl _ w).setCell (.inl (by simp)) _) ?_ ⟨ok.la, by simp [ok.lb], ok.ea, fun k hk => ?_⟩
  · have h1 := (h.nd x hxm).1.set_ (17 + c) (.int .i64 j)
    rwa [ndCells_setB ok.la] at h1
  · show (x.2.b.set c j)[k]? = _ ∨ ∃ i : Nat, (x.2.b.set c j)[k]? = _ ∧ _
    rw [set_get lc]
    by_cases e : c = k
    · subst e
      rw [if_pos rfl]
      exact .inr ⟨j, rfl, hj⟩
    · rw [if_neg e]
      exact ok.eb k hk
theorem idx_of {ms : List Nat} (hn : ms.Nodup) {j t : Nat} (h : ms[j]? = some t) : addm ms t = ms ∧ ms.idxOf t = j := by
  have hm := List.mem_of_getElem? h
  refine ⟨if_pos hm, ?_⟩
  have hlt := List.idxOf_lt_length_of_mem hm
  exact (List.getElem?_inj hlt hn).1 (by rw [List.getElem?_eq_getElem hlt, List.getElem_idxOf, h])

set_option maxRecDepth 100000 in
set_option maxHeartbeats 2000000 in
theorem edge_more {B : Nat} {w : World} {g cn : Nat} {ms S : List Nat} (h : AtlR B w g cn ms S) (hB : B ≤ w.heap.size) {n m : Nat} (hm : ms[n]? = some m) {c : Nat} (hc : c < cn) (hl : ms.length ≤ 1000000) :
    Calls Tryd.prog 29 #[.pointer (some ⟨g, 0, none⟩), .int .i64 n, .int .i64 c, .bool true] w fun e w' => e = .returned (.tuple #[.int .i64 ((addm ms (wth m c)).idxOf (wth m c) : Nat), .nilIface]) ∧ ∃ S', AtlR B w' g cn (addm ms (wth m c)) S' ∧ Stp S S' w w' := by
  obtain ⟨bm, vN, ns, hA, rfl, rfl⟩ := h
  rw [List.getElem?_map, Option.map_eq_some_iff] at hm
  obtain ⟨x, hx, rfl⟩ := hm
  have hxm := List.mem_of_getElem? hx
  have hcn := hA.cn16
  have hb := (hA.nd x hxm).1
  have hmlt := hA.small x hxm
  have hm32 : x.2.m < 4294967296 := Nat.lt_of_lt_of_le hmlt (pow_le32 (by omega))
  have htlt : wth x.2.m c < 2 ^ cn := wth_lt hmlt hc
  have HW := hide (fun w => with_calls x.2.m c hm32 (by omega) w)
  have HO := hide (fun w => without_calls x.2.m c hm32 (by omega) w)
  have HN := hide (node_ok hA hx (by simpa using hl))
  have b0 := hb.at_ 0 (ndCells_0 _)
  have lb := hb.lt
  have ga := hA.blk.at_ 0 (v := .int .i64 cn) rfl
  have lga := hA.blk.lt
  have c0 : (0 : Int) ≤ (c : Int) := by omega
  have c16 : (c : Int) < 16 := by omega
  have hcc : (c : Int) < (cn : Int) := by omega
  rcases (hA.ok x hxm).ea c hc with he | ⟨j, he, hj⟩
  · have bc := hb.at_ (1 + c) (ndCells_a he)
    have HA := hide hA
    have Hx := hide (And.intro hx (And.intro hxm (And.intro hmlt (And.intro htlt (And.intro hB (And.intro hl he))))))
    have HAt := hide (fun w1 (hf : Fr [] w w1) => at_okS (w := w1) (hA.fr0 hf) (Nat.le_trans hB hf.size) htlt hl)
    clear hA hx hxm hmlt hm32 htlt hb he hB hl
    go_enter Tryd.func29, Tryd.ntmps29
    go_wp2_with fail
    refine HN.out.mono ?_
    rintro e w' ⟨rfl, rfl⟩
    go_wp2_with fail
    go_region_held3 (fun w' => w'.cell? ⟨x.1, 0, none⟩ = some (.int .u32 x.2.m)) (go_keep)
      (first | (go_at_call 36; ((with_reducible refine (HO.out _).mono ?_)); rintro e w' ⟨rfl, rfl⟩))
    go_wp2_with fail
    go_region_held3 (fun w' => w'.cell? ⟨x.1, 0, none⟩ = some (.int .u32 x.2.m)) (go_keep)
      (first | (go_at_call 37; ((with_reducible refine (HW.out _).mono ?_)); rintro e w' ⟨rfl, rfl⟩))
    go_wp2_with fail
    refine (HAt.out _ (by (repeat (first | exact Fr.refl _ _ | apply Fr.drew | apply Fr.drewN | apply Fr.alloc | (refine Fr.setCell ?_ (by first | (left; simp [Value.ownBlock]; done) | (right; simp; omega) | (right; simp; done)) _))))).mono ?_
    rintro e w2 ⟨rfl, vN', more, hA2, hms, hst⟩
    have hx2 : (ns ++ more)[n]? = some x := by rw [List.getElem?_append_left (List.getElem?_eq_some_iff.1 Hx.out.1).1]; exact Hx.out.1
    have hxm2 := List.mem_of_getElem? hx2
    have hb2 := (hA2.nd x hxm2).1
    have bc2 := hb2.at_ (1 + c) (ndCells_a Hx.out.2.2.2.2.2.2)
    have zc2 := hb2.frozen (1 + c)
    have lb2 := hb2.lt
    have HE := hide (And.intro (hA2.setA hx2 hc (j := (addm (List.map (fun x => x.snd.m) ns) (wth x.snd.m c)).idxOf (wth x.snd.m c)) (by rw [hms]; exact addm_idx _ _)) (And.intro hms (And.intro hst hx2)))
    clear hA2 hms hst hb2 bc b0 hx2 hxm2 ga
    have hidx : (addm (List.map (fun x => x.snd.m) ns) (wth x.snd.m c)).idxOf (wth x.snd.m c) ≤ 1000001 := by
      have h1 := List.idxOf_lt_length_of_mem (addm_mem (List.map (fun x => x.snd.m) ns) (wth x.snd.m c))
      have h2 := addm_len (List.map (fun x => x.snd.m) ns) (wth x.snd.m c)
      have h3 := Hx.out.2.2.2.2.2.1
      omega
    go_wp2_with fail
    go_ret2
    refine ⟨rfl, blks g bm vN' (ns ++ more), ⟨bm, vN', _, HE.out.1, ?_, (blks_set HE.out.2.2.2 _).symm⟩, ?_⟩
    · exact HE.out.2.1.symm.trans (map_set_same (f := fun x : Nat × Nd => x.2.m) HE.out.2.2.2 (by rfl)).symm
    · have h1 := HE.out.2.2.1
      refine ⟨((Fr.refl _ w).drewN 2).trans (h1.1.setCell (.inl ?_) _), h1.2⟩
      exact List.mem_cons_of_mem _ (List.mem_cons_of_mem _ (List.mem_append_right _ (List.mem_map_of_mem Hx.out.2.1)))
  · have bc := hb.at_ (1 + c) (ndCells_a he)
    obtain ⟨e1, e2⟩ := idx_of hA.sets hj
    rw [e1, e2]
    have hjl : j < ns.length := by
      have := (List.getElem?_eq_some_iff.1 hj).1
      simpa using this
    have hl2 : ns.length ≤ 1000000 := by simpa using hl
    have hj1 : ((j : Int) == -1) = false := by first | (simp; done) | (simp; omega)
    have HA := hide hA
    clear hA hx hxm hmlt hm32 htlt hb he hB hl hj e1 e2
    go_enter Tryd.func29, Tryd.ntmps29
    go_wp2_with fail
    refine HN.out.mono ?_
    rintro e w' ⟨rfl, rfl⟩
    go_wp2_with fail
    go_region_held3 (fun w' => w'.cell? ⟨x.1, 0, none⟩ = some (.int .u32 x.2.m)) (go_keep)
      (first | (go_at_call 36; ((with_reducible refine (HO.out _).mono ?_)); rintro e w' ⟨rfl, rfl⟩))
    go_wp2_with fail
    go_region_held3 (fun w' => w'.cell? ⟨x.1, 0, none⟩ = some (.int .u32 x.2.m)) (go_keep)
      (first | (go_at_call 37; ((with_reducible refine (HW.out _).mono ?_)); rintro e w' ⟨rfl, rfl⟩))
    go_wp2_with fail
    go_ret2
    refine ⟨rfl, _, ⟨bm, vN, ns, HA.out.fr0 ((Fr.refl [] w).drewN 2), rfl, rfl⟩, (Fr.refl _ w).drewN 2, fun b hb => .inl hb⟩
set_option maxRecDepth 100000 in
set_option maxHeartbeats 2000000 in
theorem edge_less {B : Nat} {w : World} {g cn : Nat} {ms S : List Nat} (h : AtlR B w g cn ms S) (hB : B ≤ w.heap.size) {n m : Nat} (hm : ms[n]? = some m) {c : Nat} (hc : c < cn) (hl : ms.length ≤ 1000000) :
    Calls Tryd.prog 29 #[.pointer (some ⟨g, 0, none⟩), .int .i64 n, .int .i64 c, .bool false] w fun e w' => e = .returned (.tuple #[.int .i64 ((addm ms (wout m c)).idxOf (wout m c) : Nat), .nilIface]) ∧ ∃ S', AtlR B w' g cn (addm ms (wout m c)) S' ∧ Stp S S' w w' := by
  obtain ⟨bm, vN, ns, hA, rfl, rfl⟩ := h
  rw [List.getElem?_map, Option.map_eq_some_iff] at hm
  obtain ⟨x, hx, rfl⟩ := hm
  have hxm := List.mem_of_getElem? hx
  have hcn := hA.cn16
  have hb := (hA.nd x hxm).1
  have hmlt := hA.small x hxm
  have hm32 : x.2.m < 4294967296 := Nat.lt_of_lt_of_le hmlt (pow_le32 (by omega))
  have htlt : wout x.2.m c < 2 ^ cn := Nat.lt_of_le_of_lt (wout_le _ _) hmlt
  have HW := hide (fun w => with_calls x.2.m c hm32 (by omega) w)
  have HO := hide (fun w => without_calls x.2.m c hm32 (by omega) w)
  have HN := hide (node_ok hA hx (by simpa using hl))
  have b0 := hb.at_ 0 (ndCells_0 _)
  have lb := hb.lt
  have ga := hA.blk.at_ 0 (v := .int .i64 cn) rfl
  have lga := hA.blk.lt
  have c0 : (0 : Int) ≤ (c : Int) := by omega
  have c16 : (c : Int) < 16 := by omega
  have hcc : (c : Int) < (cn : Int) := by omega
  rcases (hA.ok x hxm).eb c hc with he | ⟨j, he, hj⟩
  · have bc := hb.at_ (17 + c) (ndCells_b (hA.ok x hxm).la he)
    have HA := hide hA
    have Hx := hide (And.intro hx (And.intro hxm (And.intro hmlt (And.intro htlt (And.intro hB (And.intro hl he))))))
    have HAt := hide (fun w1 (hf : Fr [] w w1) => at_okS (w := w1) (hA.fr0 hf) (Nat.le_trans hB hf.size) htlt hl)
    clear hA hx hxm hmlt hm32 htlt hb he hB hl
    go_enter Tryd.func29, Tryd.ntmps29
    go_wp2_with fail
    refine HN.out.mono ?_
    rintro e w' ⟨rfl, rfl⟩
    go_wp2_with fail
    go_region_held3 (fun w' => w'.cell? ⟨x.1, 0, none⟩ = some (.int .u32 x.2.m)) (go_keep)
      (first | (go_at_call 36; ((with_reducible refine (HO.out _).mono ?_)); rintro e w' ⟨rfl, rfl⟩))
    go_wp2_with fail
    go_wp2_with fail
    refine (HAt.out _ (by (repeat (first | exact Fr.refl _ _ | apply Fr.drew | apply Fr.drewN | apply Fr.alloc | (refine Fr.setCell ?_ (by first | (left; simp [Value.ownBlock]; done) | (right; simp; omega) | (right; simp; done)) _))))).mono ?_
    rintro e w2 ⟨rfl, vN', more, hA2, hms, hst⟩
    have hx2 : (ns ++ more)[n]? = some x := by rw [List.getElem?_append_left (List.getElem?_eq_some_iff.1 Hx.out.1).1]; exact Hx.out.1
    have hxm2 := List.mem_of_getElem? hx2
    have hb2 := (hA2.nd x hxm2).1
    have bc2 := hb2.at_ (17 + c) (ndCells_b (hA2.ok x hxm2).la Hx.out.2.2.2.2.2.2)
    have zc2 := hb2.frozen (17 + c)
    have lb2 := hb2.lt
    have HE := hide (And.intro (hA2.setB hx2 hc (j := (addm (List.map (fun x => x.snd.m) ns) (wout x.snd.m c)).idxOf (wout x.snd.m c)) (by rw [hms]; exact addm_idx _ _)) (And.intro hms (And.intro hst hx2)))
    clear hA2 hms hst hb2 bc b0 hx2 hxm2 ga
    have hidx : (addm (List.map (fun x => x.snd.m) ns) (wout x.snd.m c)).idxOf (wout x.snd.m c) ≤ 1000001 := by
      have h1 := List.idxOf_lt_length_of_mem (addm_mem (List.map (fun x => x.snd.m) ns) (wout x.snd.m c))
      have h2 := addm_len (List.map (fun x => x.snd.m) ns) (wout x.snd.m c)
      have h3 := Hx.out.2.2.2.2.2.1
      omega
    go_wp2_with fail
    go_ret2
    refine ⟨rfl, blks g bm vN' (ns ++ more), ⟨bm, vN', _, HE.out.1, ?_, (blks_set HE.out.2.2.2 _).symm⟩, ?_⟩
    · exact HE.out.2.1.symm.trans (map_set_same (f := fun x : Nat × Nd => x.2.m) HE.out.2.2.2 (by rfl)).symm
    · have h1 := HE.out.2.2.1
      refine ⟨((Fr.refl _ w).drewN 1).trans (h1.1.setCell (.inl ?_) _), h1.2⟩
      exact List.mem_cons_of_mem _ (List.mem_cons_of_mem _ (List.mem_append_right _ (List.mem_map_of_mem Hx.out.2.1)))
  · have bc := hb.at_ (17 + c) (ndCells_b (hA.ok x hxm).la he)
    obtain ⟨e1, e2⟩ := idx_of hA.sets hj
    rw [e1, e2]
    have hjl : j < ns.length := by
      have := (List.getElem?_eq_some_iff.1 hj).1
      simpa using this
    have hl2 : ns.length ≤ 1000000 := by simpa using hl
    have hj1 : ((j : Int) == -1) = false := by first | (simp; done) | (simp; omega)
    have HA := hide hA
    clear hA hx hxm hmlt hm32 htlt hb he hB hl hj e1 e2
    go_enter Tryd.func29, Tryd.ntmps29
    go_wp2_with fail
    refine HN.out.mono ?_
    rintro e w' ⟨rfl, rfl⟩
    go_wp2_with fail
    go_region_held3 (fun w' => w'.cell? ⟨x.1, 0, none⟩ = some (.int .u32 x.2.m)) (go_keep)
      (first | (go_at_call 36; ((with_reducible refine (HO.out _).mono ?_)); rintro e w' ⟨rfl, rfl⟩))
    go_wp2_with fail
    go_wp2_with fail
    go_ret2
    refine ⟨rfl, _, ⟨bm, vN, ns, HA.out.fr0 ((Fr.refl [] w).drewN 1), rfl, rfl⟩, (Fr.refl _ w).drewN 1, fun b hb => .inl hb⟩
end Go.Proofs.YtclmmfkbkaldlaaDoor

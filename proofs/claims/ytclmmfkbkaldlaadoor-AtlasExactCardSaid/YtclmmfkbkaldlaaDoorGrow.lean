/- grow: a node more. -/
import Derived.Test.YtclmmfkbkaldlaaDoorAtl
import Derived.Outline
import Derived.RegionTactic
import Derived.ChangeAlike
import Derived.Deep.DeepCutAuto
import Derived.Deep.CutBlock
namespace Go.Proofs.YtclmmfkbkaldlaaDoor
open Go.RowKit

theorem infoPN : (Tryd.prog.info? 70).map (fun i => (i.zero, i.size, i.bytes)) = some (some (.pointer none), 1, 8) := by kernel_rfl
def half (i : Nat) : List Int := List.replicate i (-1) ++ List.replicate (16 - i) 0
/-- the new node behind i rounds -/
def nd0 (m i : Nat) : Nd := ⟨m, half i, half i⟩

theorem half_len {i : Nat} (h : i ≤ 16) : (half i).length = 16 := by simp [half]; omega
theorem half_get {i : Nat} (h : i < 16) : (half i)[i]? = some 0 := by
  unfold half
  rw [List.getElem?_append_right (by simp), List.length_replicate, Nat.sub_self, List.getElem?_replicate, if_pos (by omega)]
theorem half_set {i : Nat} (h : i < 16) : (half i).set i (-1) = half (i + 1) := by
  unfold half
  rw [List.set_append, if_neg (by simp)]
  have e : 16 - i = (16 - (i + 1)) + 1 := by omega
  rw [e, List.replicate_succ]
  simp [List.replicate_succ', List.append_assoc]
theorem nd0_step {w wr : World} {m i nb : Nat} (hb : Blk wr nb 75 (ndCells (nd0 m i))) (hf : Fr [] w wr) (hn : w.heap.size ≤ nb) (hi : i < 16) :
    Blk ((wr.setCell ⟨nb, 1 + i, none⟩ (.int .i64 (-1))).setCell ⟨nb, 17 + i, none⟩ (.int .i64 (-1))) nb 75 (ndCells (nd0 m (i + 1))) ∧ Fr [] w ((wr.setCell ⟨nb, 1 + i, none⟩ (.int .i64 (-1))).setCell ⟨nb, 17 + i, none⟩ (.int .i64 (-1))) ∧
    Blk ((wr.setCell ⟨nb, 17 + i, none⟩ (.int .i64 (-1))).setCell ⟨nb, 1 + i, none⟩ (.int .i64 (-1))) nb 75 (ndCells (nd0 m (i + 1))) ∧ Fr [] w ((wr.setCell ⟨nb, 17 + i, none⟩ (.int .i64 (-1))).setCell ⟨nb, 1 + i, none⟩ (.int .i64 (-1))) := by
  have hl := half_len (i := i) (by omega)
  refine ⟨?_, (hf.setCell (.inr hn) _).setCell (.inr hn) _, ?_, (hf.setCell (.inr hn) _).setCell (.inr hn) _⟩
  · have h1 := (hb.set_ (1 + i) (.int .i64 (-1))).set_ (17 + i) (.int .i64 (-1))
    rw [ndCells_setA (x := nd0 m i) (by show i < (half i).length; omega), ndCells_setB (by simp [nd0, hl])] at h1
    simpa [nd0, half_set hi] using h1
  · have h1 := (hb.set_ (17 + i) (.int .i64 (-1))).set_ (1 + i) (.int .i64 (-1))
    rw [ndCells_setB (x := nd0 m i) hl, ndCells_setA (by show i < (half i).length; omega)] at h1
    simpa [nd0, half_set hi] using h1
theorem half_all {c : Nat} (hc : c < 16) : (half 16)[c]? = some (-1) := by
  unfold half
  rw [List.getElem?_append_left (by simpa using hc), List.getElem?_replicate, if_pos hc]
theorem Nd.Ok.more {x : Nd} {cn : Nat} {ms : List Nat} (h : x.Ok cn ms) (m : Nat) : x.Ok cn (ms ++ [m]) where
  la := h.la
  lb := h.lb
  ea := fun c hc => (h.ea c hc).imp_right fun ⟨j, h1, h2⟩ => ⟨j, h1, by rw [List.getElem?_append_left (List.getElem?_eq_some_iff.1 h2).1, h2]⟩
  eb := fun c hc => (h.eb c hc).imp_right fun ⟨j, h1, h2⟩ => ⟨j, h1, by rw [List.getElem?_append_left (List.getElem?_eq_some_iff.1 h2).1, h2]⟩
theorem nd0_ok (m cn : Nat) (ms : List Nat) (hcn : cn ≤ 16) : (nd0 m 16).Ok cn ms := ⟨rfl, rfl, fun c hc => .inl (half_all (by omega)), fun c hc => .inl (half_all (by omega))⟩
def blks (g bm : Nat) (vN : Value) (ns : List (Nat × Nd)) : List Nat := g :: bm :: (vN.ownBlock.toList ++ ns.map (·.1))
theorem AtlS.form {B : Nat} {w : World} {g cn bm : Nat} {vN : Value} {ns : List (Nat × Nd)} (h : AtlS B w g cn bm vN ns) : ∃ A c, vN = .slice A ns.length c := by
  rcases row_form h.row with ⟨rfl, h0, _⟩ | ⟨gp, cp, rfl, _⟩
  · rw [h0]; exact ⟨_, _, rfl⟩
  · exact ⟨_, _, rfl⟩
theorem AtlS.old {B : Nat} {w : World} {g cn bm : Nat} {vN : Value} {ns : List (Nat × Nd)} (h : AtlS B w g cn bm vN ns) : ∀ b ∈ g :: bm :: (vN.ownBlock.toList ++ ns.map (·.1)), b < w.heap.size ∧ B ≤ b :=
  AtlR.lt ⟨bm, vN, ns, h, rfl, rfl⟩
theorem AtlS.fr0 {B : Nat} {w w' : World} {g cn bm : Nat} {vN : Value} {ns : List (Nat × Nd)} (h : AtlS B w g cn bm vN ns) (hf : Fr [] w w') : AtlS B w' g cn bm vN ns :=
  ⟨h.ge, h.blk.fr0 hf, row_fr h.row hf (by simp), fun x hx => ⟨(h.nd x hx).1.fr0 hf, (h.nd x hx).2⟩, h.mge, h.map.fr hf (by simp), h.cn16, h.apart, h.sets, h.small, h.ok⟩
theorem AtlS.own_ne {B : Nat} {w : World} {g cn bm : Nat} {vN : Value} {ns : List (Nat × Nd)} (h : AtlS B w g cn bm vN ns) : vN.ownBlock ≠ some g ∧ vN.ownBlock ≠ some bm ∧ g ≠ bm := by
  have hnd := h.apart
  simp only [List.nodup_cons, List.mem_cons, List.mem_append, Option.mem_toList, List.nodup_append, not_or] at hnd
  exact ⟨hnd.1.2.1, hnd.2.1.1, hnd.1.1⟩
theorem grow_end {B : Nat} {w wr w3 w5 : World} {g cn bm m nb gg cap : Nat} {vN : Value} {ns : List (Nat × Nd)} {o : Obj} (hA : AtlS B w g cn bm vN ns) (hB : B ≤ w.heap.size) (hm : m < 2 ^ cn) (hn : m ∉ ns.map (·.2.m)) (hf : Fr [] w wr)
    (hnb : Blk wr nb 75 (ndCells (nd0 m 16))) (hge : w.heap.size ≤ nb)
    (hown : w3.ownsRow B 70 1 (.slice (some ⟨gg, 0, none⟩) (ns.length + 1) cap) (ns.length + 1) ((ns.map fun x => Value.pointer (some ⟨x.1, 0, none⟩)) ++ [.pointer (some ⟨nb, 0, none⟩)]))
    (hgrow : (wr.alloc o).grownBy w3 vN.ownBlock) (hat : vN.ownBlock = some gg ∨ gg = wr.heap.size + 1)
    (hmap : MapIs w5 bm (ns.map (·.2.m) ++ [m])) (hg5 : (w3.setCell ⟨g, 1, none⟩ (.slice (some ⟨gg, 0, none⟩) (ns.length + 1) cap)).grownBy w5 (some bm)) :
    ∃ vN' y, AtlS B w5 g cn bm vN' (ns ++ [y]) ∧ y.2.m = m ∧ Stp (blks g bm vN ns) (blks g bm vN' (ns ++ [y])) w w5 := by
  unfold blks
  have hold := hA.old
  have hnd := hA.apart
  have lnb := hnb.lt
  have lwr := hf.size
  have hA1 := (hA.fr0 hf)
  have hT1 : Fr (g :: bm :: vN.ownBlock.toList) wr w3 := ((Fr.refl _ wr).alloc o).grown hgrow (fun k hk => .inl (by simp [hk]))
  have hT2 : Fr (g :: bm :: vN.ownBlock.toList) wr w5 := (hT1.setCell (.inl (by simp)) _).grown hg5 (fun k hk => .inl (by simp at hk; simp [hk]))
  have hTw : Fr (g :: bm :: vN.ownBlock.toList) w w5 := (hf.any _).trans hT2
  simp only [List.nodup_cons, List.mem_cons, List.mem_append, Option.mem_toList, List.nodup_append, not_or] at hnd
  obtain ⟨⟨n1, n2, n3⟩, ⟨n4, n5⟩, n6, n7, n8⟩ := hnd
  have lg : g < w.heap.size := (hold g (by simp)).1
  have lbm : bm < w.heap.size := (hold bm (by simp)).1
  have ggne : ∀ b, b < w.heap.size → vN.ownBlock ≠ some b → gg ≠ b := by
    intro b hb hne e
    subst e
    exact hat.elim hne fun e => by omega
  have ggB : B ≤ gg := hat.elim (fun e => (row_lt hA.row e).2) fun e => by omega
  have ggnd : gg ∉ ns.map (·.1) := by
    intro hm'
    refine hat.elim (fun e => ?_) fun e => ?_
    · exact n8 gg e gg hm' rfl
    · have := (hold gg (by simp [hm'])).1; omega
  have nbT : ∀ b, b < w.heap.size → nb ≠ b := fun b hb => by omega
  refine ⟨.slice (some ⟨gg, 0, none⟩) (ns.length + 1) cap, (nb, nd0 m 16), ⟨hA.ge, ?_, ?_, ?_, hA.mge, by simpa [nd0] using hmap, hA.cn16, ?_, ?_, ?_, ?_⟩, rfl, hTw.mono ?_, ?_⟩
  · have h1 := ((hA1.blk.alloc o).grown hgrow (fun e => n2 e.symm)).set_ 1 (.slice (some ⟨gg, 0, none⟩) (ns.length + 1) cap)
    exact h1.grown hg5 (by simpa using n1)
  · rw [List.length_append, List.length_singleton, List.map_append, List.map_singleton]
    exact row_grown (row_far hown (by simpa [Value.ownBlock] using ggne g lg n2) _) hg5 (fun b hb => by
      have : gg = b := by simpa [Value.ownBlock] using hb
      subst this
      simpa using (ggne bm lbm n4).symm)
  · intro x hx
    rcases List.mem_append.1 hx with hx | hx
    · have hx1 : x.1 ∈ ns.map (·.1) := List.mem_map_of_mem hx
      refine ⟨(hA.nd x hx).1.fr hTw ?_, (hA.nd x hx).2⟩
      simp only [List.mem_cons, Option.mem_toList, not_or]
      exact ⟨fun e => n3 (e ▸ hx1), fun e => n5 (e ▸ hx1), fun e => n8 _ e _ hx1 rfl⟩
    · obtain rfl := List.mem_singleton.1 hx
      refine ⟨hnb.fr hT2 ?_, by show B ≤ nb; omega⟩
      simp only [List.mem_cons, Option.mem_toList, not_or]
      exact ⟨nbT g lg, nbT bm lbm, fun e => nbT nb (row_lt hA.row e).1 rfl⟩
  · simp only [List.nodup_cons, List.mem_cons, List.mem_append, List.map_append, List.map_singleton, List.nodup_append, not_or, Value.ownBlock, Option.mem_toList]
    have nbns : nb ∉ ns.map (·.1) := fun h => nbT nb (hold nb (by simp [h])).1 rfl
    refine ⟨⟨n1, fun e => ggne g lg n2 (by simpa using e), n3, ⟨(nbT g lg).symm, by simp⟩⟩, ⟨fun e => ggne bm lbm n4 (by simpa using e), n5, ⟨(nbT bm lbm).symm, by simp⟩⟩, by simp, ⟨n7, by simp, ?_⟩, ?_⟩
    · intro a ha b hb
      simp at hb
      subst hb
      exact fun e => nbns (e ▸ ha)
    · intro a ha b hb
      obtain rfl : gg = a := by simpa using ha
      rcases hb with hb | hb
      · exact fun e => ggnd (e ▸ hb)
      · simp at hb
        subst hb
        exact hat.elim (fun e => fun e2 => nbT gg (row_lt hA.row e).1 e2.symm) fun e => by omega
  · rw [List.map_append, List.nodup_append]
    refine ⟨hA.sets, by simp, ?_⟩
    intro a ha b hb
    simp [nd0] at hb
    subst hb
    exact fun e => hn (e ▸ ha)
  · intro x hx
    rcases List.mem_append.1 hx with hx | hx
    · exact hA.small x hx
    · obtain rfl := List.mem_singleton.1 hx
      exact hm
  · intro x hx
    rw [List.map_append, List.map_singleton]
    rcases List.mem_append.1 hx with hx | hx
    · exact (hA.ok x hx).more _
    · obtain rfl := List.mem_singleton.1 hx
      exact nd0_ok m cn _ hA.cn16
  · intro x hx
    simp only [List.mem_cons, List.mem_append] at hx ⊢
    rcases hx with h | h | h
    · exact .inl h
    · exact .inr (.inl h)
    · exact .inr (.inr (.inl h))
  · intro b hb
    simp only [List.mem_cons, List.mem_append, List.map_append, List.map_singleton, List.not_mem_nil, or_false, Value.ownBlock, Option.toList_some] at hb ⊢
    rcases hb with h | h | h | h | h
    · exact .inl (.inl h)
    · exact .inl (.inr (.inl h))
    · subst h
      exact hat.elim (fun e => .inl (.inr (.inr (.inl (Option.mem_toList.2 e))))) fun e => .inr (by omega)
    · exact .inl (.inr (.inr (.inr h)))
    · exact .inr (by rw [h]; exact hge)

set_option maxRecDepth 100000 in
set_option maxHeartbeats 2000000 in
theorem grow_okS {B : Nat} {w : World} {g cn bm : Nat} {vN : Value} {ns : List (Nat × Nd)} (hA : AtlS B w g cn bm vN ns) (hB : B ≤ w.heap.size) {m : Nat} (hm : m < 2 ^ cn) (hn : m ∉ ns.map (·.2.m)) (hl : (ns.map (·.2.m)).length ≤ 1000000) :
    Calls Tryd.prog 27 #[.pointer (some ⟨g, 0, none⟩), .int .u32 m] w fun e w' => e = .returned (.int .i64 (ns.map (·.2.m)).length) ∧ ∃ vN' y, AtlS B w' g cn bm vN' (ns ++ [y]) ∧ y.2.m = m ∧ Stp (blks g bm vN ns) (blks g bm vN' (ns ++ [y])) w w' := by
  have HA := hide hA
  have HH := hide (And.intro hm hn)
  have Hl := hide hl
  have HB := hide hB
  clear hA hm hn hl hB
  go_enter Tryd.func27, Tryd.ntmps27
  go_wp2_with fail
  have H0 : Hid (Blk (w.alloc (.cells (ndCells (nd0 m 0)) 75)) w.heap.size 75 (ndCells (nd0 m 0)) ∧ Fr [] w (w.alloc (.cells (ndCells (nd0 m 0)) 75))) := hide ⟨Blk.new _ _ _, (Fr.refl _ _).alloc _⟩
  go_loopw [11] (fun s11 wr => ∃ i : Nat, i ≤ 16 ∧ s11 = .int .i64 i ∧ Blk wr w.heap.size 75 (ndCells (nd0 m i)) ∧ Fr [] w wr) (fun s11 _ => 16 - (intOf s11).toNat)
  case atStart => exact ⟨0, by omega, rfl, H0.out.1, H0.out.2⟩
  case round =>
    obtain ⟨i, hi, rfl, hb, hf⟩ := hrel
    clear H0
    by_cases hi1 : i < 16
    · have l1 : (half i)[i]? = some 0 := half_get hi1
      have f1 := hb.at_ (1 + i) (ndCells_a (x := nd0 m i) l1)
      have f2 := hb.at_ (17 + i) (ndCells_b (x := nd0 m i) (half_len (by omega)) l1)
      have z1 := hb.frozen (1 + i)
      have z2 := hb.frozen (17 + i)
      have lg := hb.lt
      have HR := hide (nd0_step hb hf (Nat.le_refl _) hi1)
      clear hb hf l1
      have i0 : (0 : Int) ≤ (i : Int) := by omega
      have i1 : (i : Int) < 16 := by omega
      generalize w.heap.size = nb at *
      go_wp2_with fail
      go_region
      go_wp2_with fail
      go_roundw
      case rel => exact ⟨i + 1, by omega, by go_num, HR.out.1, HR.out.2.1.drew⟩
      case measure => simp [intOf]; omega
    · have h16 : i = 16 := by omega
      subst h16
      have HS := hide (HA.out.fr0 hf)
      have HF := hide (And.intro hf hb)
      obtain ⟨A2, c2, rfl⟩ := HA.out.form
      have g1 := HS.out.blk.at_ 1 (v := .slice A2 ns.length c2) rfl
      have lg := HS.out.blk.lt
      have HG := hide (HS.out.own_ne)
      have Hl2 : Hid (ns.length ≤ 1000000) := hide (by simpa using Hl.out)
      have hl2 := Hl2.out
      have hBw : B ≤ wr.heap.size := Nat.le_trans HB.out hf.size
      clear hb hf hi hi1
      obtain ⟨i0, hi0, hz0, hz1, hz2⟩ := info_parts infoPN
      generalize hnb : w.heap.size = nb at *
      have Hnb := hide hnb
      clear hnb
      go_upto_region 9 with (at_builtin; refine wpList_append_lies _ rfl _ _ _ rfl B 70 i0 _ 1 8 Tryd.underlying65 hi0 hz0 hz1 hz2 rfl (by omega) (.slice A2 ns.length c2) (ns.length) ((ns.map fun x => Value.pointer (some ⟨x.1, 0, none⟩))) rfl ((HS.out.row.alloc _)) ⟨wr.heap.size, 0, none⟩ 1 1 [(.pointer (some ⟨nb, 0, none⟩))] rfl rfl (World.news_of_block (cs := #[(.pointer (some ⟨nb, 0, none⟩))]) (t := 70) (fr := (0, 0)) (Blk.new_at _ _ _ _ (by simp))) (by simp [Value.oneCell']) (by omega) (by unfold maxLen; omega) (by omega) (by simp; omega) (wr.heap.size + 1) (by simp) ?_; intro gg cap w3 hown3 hgrow hat hlt3; have g3 := (((HS.out.blk.alloc _).grown hgrow (by first | exact Ne.symm HG.out.1 | exact HG.out.1))).at_ 1 (v := .slice A2 ns.length c2) rfl; have g4 := (((HS.out.blk.alloc _).grown hgrow (by first | exact Ne.symm HG.out.1 | exact HG.out.1))).at_ 2 (v := .map (some bm)) rfl; have lg3 := (((HS.out.blk.alloc _).grown hgrow (by first | exact Ne.symm HG.out.1 | exact HG.out.1))).lt; have zg3 := (((HS.out.blk.alloc _).grown hgrow (by first | exact Ne.symm HG.out.1 | exact HG.out.1))).frozen 1)
      have hmap := (HS.out.map.fr ((((Fr.refl (g :: (Value.slice A2 ns.length c2).ownBlock.toList) wr).alloc _).grown hgrow (fun k hk => .inl (by simp [hk]))).setCell (p := ⟨g, 1, none⟩) (.inl (by simp)) (.slice (some ⟨gg, 0, none⟩) (ns.length + 1) cap)) (by
        simp only [List.mem_cons, Option.mem_toList, not_or]
        exact ⟨fun e => HG.out.2.2 e.symm, HG.out.2.1⟩))
      obtain ⟨w5, hrun, hm5, hg5⟩ := hmap.store (m := m) (Nat.lt_of_lt_of_le HH.out.1 (pow_le32 (by have := HA.out.cn16; omega))) HH.out.2 Hl.out
      rw [List.length_map] at hrun
      have HE := hide (grow_end HA.out (by rw [Hnb.out]; exact HB.out) HH.out.1 HH.out.2 HF.out.1 HF.out.2 (by rw [Hnb.out]; exact Nat.le_refl _) hown3 hgrow hat hm5 hg5)
      have n1 : g ≠ bm := HG.out.2.2
      clear hmap hm5 hg5 hown3 hgrow hat g1
      go_wp2_with fail
      go_ret
      exact ⟨ret_eq (by simp), HE.out⟩
theorem grow_ok {B : Nat} {w : World} {g cn : Nat} {ms S : List Nat} (h : AtlR B w g cn ms S) (hB : B ≤ w.heap.size) {m : Nat} (hm : m < 2 ^ cn) (hn : m ∉ ms) (hl : ms.length ≤ 1000000) :
    Calls Tryd.prog 27 #[.pointer (some ⟨g, 0, none⟩), .int .u32 m] w fun e w' => e = .returned (.int .i64 ms.length) ∧ ∃ S', AtlR B w' g cn (ms ++ [m]) S' ∧ Stp S S' w w' := by
  obtain ⟨bm, vN, ns, hA, rfl, rfl⟩ := h
  refine (grow_okS hA hB hm hn hl).mono ?_
  rintro e w' ⟨rfl, vN', y, h1, rfl, h2⟩
  exact ⟨rfl, _, ⟨bm, vN', _, h1, by simp, rfl⟩, h2⟩
end Go.Proofs.YtclmmfkbkaldlaaDoor

/- Laid variables ahead of and behind the sentinels; a laid variable's block known whole. -/
import Derived.Test.YtnncbmbepdkfnaaDoorPlain
namespace Go.Proofs.YtnncbmbepdkfnaaDoor
open Go.ChangeShapes Go.WideShapes Go.ChangeAt Go.RowKit Go.Deep

theorem laid_tail {P : Program} {W : World} {x : String × DataW Unit} {l : List (String × DataW Unit)} (h : laidMet P (x :: l) W) : laidMet P l W := by
  obtain ⟨ps, hv, hnd, hrows⟩ := h
  obtain ⟨g', t', cs, fuel, p, q, hg0, ht0, hv0, hd0, hq, rfl⟩ := hv
  exact ⟨q, hq, List.Nodup.sublist (List.sublist_append_right _ _) hnd, fun b off hm => hrows b off (by simp [hm])⟩
theorem laidVars_app {P : Program} {W : World} : ∀ {l1 l2 : List (String × DataW Unit)} {ps : List MemPlace}, DataW.LaidVars P W (l1 ++ l2) ps → ∃ p q, DataW.LaidVars P W l1 p ∧ DataW.LaidVars P W l2 q ∧ ps = p ++ q
  | [], l2, ps, h => ⟨[], ps, rfl, h, rfl⟩
  | x :: l1, l2, ps, h => by
    obtain ⟨g', t', cs, fuel, p, q, hg0, ht0, hv0, hd0, hq, rfl⟩ := h
    obtain ⟨p1, q1, h1, h2, rfl⟩ := laidVars_app hq
    exact ⟨_, q1, ⟨g', t', cs, fuel, p, p1, hg0, ht0, hv0, hd0, h1, rfl⟩, h2, by simp [List.append_assoc]⟩
theorem laid_app {P : Program} {W : World} {l1 l2 : List (String × DataW Unit)} (h : laidMet P (l1 ++ l2) W) : laidMet P l1 W ∧ laidMet P l2 W := by
  obtain ⟨ps, hv, hnd, hrows⟩ := h
  obtain ⟨p, q, h1, h2, rfl⟩ := laidVars_app hv
  exact ⟨⟨p, h1, List.Nodup.sublist (List.sublist_append_left _ _) hnd, fun b off hm => hrows b off (by simp [hm])⟩, ⟨q, h2, List.Nodup.sublist (List.sublist_append_right _ _) hnd, fun b off hm => hrows b off (by simp [hm])⟩⟩
/-- the first of the laid variables: its block whole -/
theorem laid_block {W : World} {nm : String} {d : DataW Unit} {l : List (String × DataW Unit)} (h : laidMet Tryd.prog ((nm, d) :: l) W) {n g t : Nat} {ks : List Value} (hg : Tryd.prog.globalNamed nm = some g) (ht : (Tryd.prog.globals[g]?).map (·.type) = some t) (hk : plainCells Tryd.prog n t d = some ks) (h0 : 0 < ks.length) :
    ∃ t', Blk W g t' ks.toArray := by
  have hc := (laid_first h hg ht hk).1
  obtain ⟨ps, hv, hnd, hrows⟩ := h
  obtain ⟨g', t', cs, fuel, p, q, hg0, ht0, hv0, hd0, hq, rfl⟩ := hv
  obtain rfl := Option.some.inj (hg.symm.trans hg0)
  obtain rfl := Option.some.inj (ht.symm.trans ht0)
  have hcs := plain_ok _ _ _ _ _ _ _ hk hd0
  have hsz : 0 < cs.size := by rw [← Array.length_toList, hcs]; exact h0
  obtain ⟨c, t'', hb⟩ := (hrows g 0 (by simp [MemPlace.row, hsz])).1
  refine ⟨t'', ?_⟩
  have : c = ks.toArray := by
    apply Array.ext_getElem?
    intro i
    rw [← cell_of_row W g i c t'' (0, 0) hb, hc i]
    simp
  rw [← this]
  exact hb
end Go.Proofs.YtnncbmbepdkfnaaDoor

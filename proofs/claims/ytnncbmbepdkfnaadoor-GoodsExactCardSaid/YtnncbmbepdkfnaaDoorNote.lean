/- schema's flaws: note. -/
import Derived.Test.YtnncbmbepdkfnaaDoorTree9
import Derived.Test.YtnncbmbepdkfnaaDoorBack
namespace Go.Proofs.YtnncbmbepdkfnaaDoor
open Go.RowKit Go.Shelf
attribute [local go_sem] Oper.semAt_some
theorem sent_hc {w : World} {ad : Nat → Addr} {k : Nat} (h1 : 1 ≤ k) (h2 : k ≤ 18) : HC w ad (sv (ad k)) ([], k) := ⟨h1, h2, [], .sent⟩
theorem at_hc {w : World} {ad : Nat → Addr} {v : Value} {c : Ch} (h : HC w ad v c) (s : ByteArray) :
    Calls Tryd.prog 41 #[.string s, v] w fun e w' => ∃ b, e = .returned (bv b) ∧ HC w' ad (bv b) (s :: c.1, c.2) ∧ Fr [] w w' := by
  refine (at_ev h.ev s).mono ?_
  rintro e w' ⟨x, rfl, -, hw, hf⟩
  have hw := hw (by simp)
  obtain ⟨b, v0, rfl, -⟩ := id hw
  exact ⟨b, rfl, hw.one, hf⟩
/-- chains over a write to blocks that hold no Blames -/
theorem ChainS.frT {w w' : World} {ad : Nat → Addr} {k : Nat} {v : Value} {ws : List ByteArray} {T S : List Nat} (h : ChainS w ad k v ws T) (hf : Fr S w w') (hS : ∀ b ∈ S, ∃ t cs, Blk w b t cs ∧ t ≠ 107) : ChainS w' ad k v ws T := by
  induction h with
  | sent => exact .sent
  | blame b s v ws T hb _ ih =>
    refine .blame b s v ws T (hb.fr hf fun hm => ?_) ih
    obtain ⟨t, cs, h2, hne⟩ := hS b hm
    exact hb.ne_ h2 (Ne.symm hne) rfl
theorem HC.frT {w w' : World} {ad : Nat → Addr} {v : Value} {c : Ch} {S : List Nat} (h : HC w ad v c) (hf : Fr S w w') (hS : ∀ b ∈ S, ∃ t cs, Blk w b t cs ∧ t ≠ 107) : HC w' ad v c := ⟨h.1, h.2.1, h.2.2.elim fun T hT => ⟨T, hT.frT hf hS⟩⟩
theorem HL.frT {w w' : World} {ad : Nat → Addr} {vs : List Value} {cs : List Ch} {S : List Nat} (h : HL w ad vs cs) (hf : Fr S w w') (hS : ∀ b ∈ S, ∃ t cs, Blk w b t cs ∧ t ≠ 107) : HL w' ad vs cs := ⟨h.1, fun i v c hv hc => (h.2 i v c hv hc).frT hf hS⟩
theorem Blk.kept {A B : World} {row : Option Nat} {g : Nat} {t : TypeId} {cs : Array Value} (h : Blk A g t cs) (hg : A.grownBy B row) (hr : ∀ r, row = some r → ∃ o : Obj, A.heap[r]? = some o ∧ o.isCells = false) : Blk B g t cs := by
  refine h.grown hg fun e => ?_
  obtain ⟨o, ho, hc⟩ := hr g e.symm
  unfold Blk at h
  rw [h] at ho
  cases ho
  cases hc
theorem ChainS.kept {A B : World} {row : Option Nat} {ad : Nat → Addr} {k : Nat} {v : Value} {ws : List ByteArray} {T : List Nat} (h : ChainS A ad k v ws T) (hg : A.grownBy B row) (hr : ∀ r, row = some r → ∃ o : Obj, A.heap[r]? = some o ∧ o.isCells = false) : ChainS B ad k v ws T := by
  induction h with
  | sent => exact .sent
  | blame b s v ws T hb _ ih => exact .blame b s v ws T (hb.kept hg hr) ih
theorem HC.kept {A B : World} {row : Option Nat} {ad : Nat → Addr} {v : Value} {c : Ch} (h : HC A ad v c) (hg : A.grownBy B row) (hr : ∀ r, row = some r → ∃ o : Obj, A.heap[r]? = some o ∧ o.isCells = false) : HC B ad v c := ⟨h.1, h.2.1, h.2.2.elim fun T hT => ⟨T, hT.kept hg hr⟩⟩
/-- the flaws noted: the object at g, its row, the errors' leaves -/
def FI (B : Nat) (w : World) (ad : Nat → Addr) (g : Nat) (S : List Nat) (cs : List Ch) : Prop :=
  ∃ sl vs, S = g :: sl.ownBlock.toList ∧ B ≤ g ∧ Blk w g 88 #[sl] ∧ w.ownsRow B 26 1 sl cs.length vs ∧ HL w ad vs cs
theorem FI.fr0 {B : Nat} {w w' : World} {ad : Nat → Addr} {g : Nat} {S : List Nat} {cs : List Ch} (h : FI B w ad g S cs) (hf : Fr [] w w') : FI B w' ad g S cs := by
  obtain ⟨sl, vs, h1, h2, h3, h4, h5⟩ := h
  exact ⟨sl, vs, h1, h2, h3.fr0 hf, row_fr h4 hf (by simp), h5.fr0 hf⟩
theorem backs_all (zs : List ByteArray) : (backs zs zs.length).map (·.2) = zs.reverse := by
  apply List.ext_getElem
  · simp [backs]
  · intro i h1 h2
    have : i < zs.length := by simpa using h2
    simp [backs, List.getElem_reverse]
    rw [List.getElem?_eq_getElem (by omega)]
    rfl
theorem fr_keeps {W W' : World} (hf : Fr [] W W') : KeepsOthers W W' := ⟨hf.size, fun k o hk _ => by
  rcases Nat.lt_or_ge k W.heap.size with h | h
  · exact (hf.block k h (by simp)).trans hk
  · rw [Array.getElem?_eq_none h] at hk; cases hk⟩
theorem HL.kept {A B : World} {row : Option Nat} {ad : Nat → Addr} {vs : List Value} {cs : List Ch} (h : HL A ad vs cs) (hg : A.grownBy B row) (hr : ∀ r, row = some r → ∃ o : Obj, A.heap[r]? = some o ∧ o.isCells = false) : HL B ad vs cs := ⟨h.1, fun i v c hv hc => (h.2 i v c hv hc).kept hg hr⟩
theorem FI.put {B : Nat} {w : World} {ad : Nat → Addr} {g : Nat} {S : List Nat} {cs : List Ch} (h : FI B w ad g S cs) {D : Nat} {o : Obj} (o' : Obj) (ho : w.heap[D]? = some o) (hc : o.isCells = false) : FI B (w.putObj D o') ad g S cs := by
  obtain ⟨sl, vs, h1, h2, h3, h4, h5⟩ := h
  have hr : ∀ r, some D = some r → ∃ o : Obj, w.heap[r]? = some o ∧ o.isCells = false := fun r e => by cases e; exact ⟨o, ho, hc⟩
  exact ⟨sl, vs, h1, h2, h3.kept (grownBy_putObj' w D o') hr, ownsRow_putObj h4 o' ho hc, h5.kept (grownBy_putObj' w D o') hr⟩
theorem own_cells {w : World} {B : Nat} {t : TypeId} {size n : Nat} {v : Value} {xs : List Value} (h : w.ownsRow B t size v n xs) (j : Nat) (o : Obj) (hj : v.ownBlock = some j) (ho : w.heap[j]? = some o) : o.isCells = true := by
  rcases row_form h with ⟨rfl, _⟩ | ⟨g, cap, rfl, _⟩
  · simp [Value.ownBlock] at hj
  · obtain ⟨cur, hc, _⟩ := row_blk h
    have : g = j := by simpa [Value.ownBlock] using hj
    subst this
    unfold Blk at hc
    rw [hc] at ho
    cases ho
    rfl
theorem wp_normal {P : Program} {c : Code} {a : Act} {w : World} {Q : Exit → Act → World → Prop} (h : c.wp P (Exit.then (Q .normal) (fun _ _ _ => False)) a w) : c.wp P Q a w :=
  wp_mono h (fun e a w h => by cases e <;> first | exact h | exact h.elim)
theorem Stp.put {S S' : List Nat} {w w' : World} (h : Stp S S' w w') {D : Nat} {o : Obj} {o' : Obj} (hD : w.heap.size ≤ D) (ho : w'.heap[D]? = some o) : Stp S S' w (w'.putObj D o') :=
  ⟨h.1.grown (grownBy_putObj' w' D o') fun k e => by cases e; exact .inr hD, h.2⟩
/-- the end of a note: the row with one error more, stored -/
theorem note_end {B : Nat} {w W w4 : World} {ad : Nat → Addr} {g gg cap : Nat} {sl v : Value} {vs : List Value} {cs : List Ch} {c : Ch} (hBg : B ≤ g) (lg : g < w.heap.size) (hfw : Fr [] w W) (hg : Blk W g 88 #[sl]) (hE : W.ownsRow B 26 1 sl cs.length vs) (hL : HL W ad vs cs) (hc : HC W ad v c)
    {X : World} (hX : Fr [] W X) (hgrow : X.grownBy w4 sl.ownBlock) (hown : w4.ownsRow B 26 1 (.slice (some ⟨gg, 0, none⟩) (cs.length + 1) cap) (cs.length + 1) (vs ++ [v])) (hat : sl.ownBlock = some gg ∨ gg = X.heap.size) :
    FI B (w4.setCell ⟨g, 0, none⟩ (.slice (some ⟨gg, 0, none⟩) (cs.length + 1) cap)) ad g [g, gg] (cs ++ [c]) ∧ Stp (g :: sl.ownBlock.toList) [g, gg] w (w4.setCell ⟨g, 0, none⟩ (.slice (some ⟨gg, 0, none⟩) (cs.length + 1) cap)) := by
  have hne : sl.ownBlock ≠ some g := row_blk_ne hE hg (by decide)
  have hEX := row_fr hE hX (by simp)
  have hfX : Fr sl.ownBlock.toList X w4 := (Fr.refl _ X).grown hgrow fun k hk => .inl (by simp [hk])
  have hg4 : Blk w4 g 88 #[sl] := (hg.fr0 hX).grown hgrow (fun e => hne e.symm)
  have hSX : ∀ b ∈ sl.ownBlock.toList, ∃ t cs, Blk X b t cs ∧ t ≠ 107 := by
    intro b hb
    rcases row_form hEX with ⟨rfl, _⟩ | ⟨g', cap', rfl, _⟩
    · simp [Value.ownBlock] at hb
    · obtain ⟨cur, hcur, _⟩ := row_blk hEX
      have : b = g' := by simpa [Value.ownBlock] using hb
      subst this
      exact ⟨_, cur, hcur, by decide⟩
  have hgg : gg ≠ g := by
    rintro rfl
    rcases hat with hat | hat
    · exact hne hat
    · have := hfw.size; have := hX.size; omega
  have hfin : Fr [g] w4 (w4.setCell ⟨g, 0, none⟩ (.slice (some ⟨gg, 0, none⟩) (cs.length + 1) cap)) := (Fr.refl _ w4).setCell (by simp) _
  have hSg : ∀ b ∈ [g], ∃ t cs, Blk w4 b t cs ∧ t ≠ 107 := fun b hb => by rw [List.mem_singleton] at hb; subst hb; exact ⟨_, _, hg4, by decide⟩
  refine ⟨⟨.slice (some ⟨gg, 0, none⟩) (cs.length + 1) cap, vs ++ [v], rfl, hBg, hg4.set_ 0 _, ?_, ?_⟩, ?_, ?_⟩
  · have := row_far hown (p := ⟨g, 0, none⟩) (by simpa [Value.ownBlock] using hgg) (.slice (some ⟨gg, 0, none⟩) (cs.length + 1) cap)
    simpa using this
  · exact (((hL.fr0 hX).frT hfX hSX).frT hfin hSg).app (HL.one (((hc.fr0 hX).frT hfX hSX).frT hfin hSg))
  · exact ((((hfw.trans hX).any _).grown hgrow fun k hk => .inl (by simp [hk])).setCell (p := ⟨g, 0, none⟩) (.inl (by simp)) _)
  · intro x hx
    rcases List.mem_cons.1 hx with rfl | hx
    · exact .inl (by simp)
    · rw [List.mem_singleton] at hx
      subst hx
      exact hat.elim (fun e => .inl (by simp [e])) fun e => .inr (by have := hfw.size; have := hX.size; omega)
set_option maxRecDepth 100000 in
set_option maxHeartbeats 8000000 in
theorem note_calls {B : Nat} {w : World} {ad : Nat → Addr} {g : Nat} {S : List Nat} {cs : List Ch} (h : FI B w ad g S cs) (hl : cs.length ≤ 100000) {k : Nat} (h1 : 1 ≤ k) (h2 : k ≤ 18) {b cap : Nat} {zs : List ByteArray} (hz : zs.length ≤ 1000)
    (hway : w.ownsRow 0 9 1 (.slice (some ⟨b, 0, none⟩) zs.length cap) zs.length (zs.map Value.string)) :
    Calls Tryd.prog 37 #[.pointer (some ⟨g, 0, none⟩), sv (ad k), .slice (some ⟨b, 0, none⟩) zs.length cap] w fun e w' => e = .returned (.tuple #[]) ∧ ∃ S', FI B w' ad g S' (cs ++ [(zs, k)]) ∧ Stp S S' w w' := by
  obtain ⟨sl, vs, rfl, hBg, hg, hE, hL⟩ := h
  obtain ⟨i0, hi0, hz0, hs0, hb0⟩ := info_parts infoErr
  have HH := hide (And.intro hg (And.intro hE hL))
  have HW := hide hway
  have lg := hg.lt
  have lb : b < w.heap.size := (row_lt hway rfl).1
  clear hg hE hL hway
  refine (callsIn_wide (n := 3)).1 ?_
  refine callsIn_of_wp_marks (F := Fence.wide) Tryd.func37 rfl trivial ?_ rfl
  simp only [Tryd.ntmps37, List.size_toArray, List.length_cons, List.length_nil, Nat.reduceAdd, Nat.reduceSub, Array.replicate_succ, Array.replicate_zero, List.push_toArray, List.append_toArray, List.nil_append, List.cons_append]
  refine wpIn_wide.2 ?_
  go_wp2_with fail
  refine (back_calls _ _ _ _).mono ?_
  rintro e w1 ⟨rfl, hw1⟩
  have bE : Boxed w1 w.heap.size 26 (sv (ad k)) := by rw [← hw1]; exact (Boxed.new w 26 (sv (ad k))).alloc _
  have bS : Boxed w1 (w.heap.size + 1) 103 (.slice (some ⟨b, 0, none⟩) zs.length cap) := by
    rw [← hw1]
    have := Boxed.new (w.alloc (.cells #[sv (ad k)] 26)) 103 (.slice (some ⟨b, 0, none⟩) zs.length cap)
    rwa [World.size_alloc] at this
  have hsz : w1.heap.size = w.heap.size + 2 := by rw [← hw1]; simp
  have hB0 : Below w.heap.size w w1 := by rw [← hw1]; exact ((Below.refl _ w).alloc (Nat.le_refl _) _).alloc (by simp) _
  have hway1 := row_fr HW.out (Fr.of_below hB0 []) (by simp)
  clear hw1
  go_wp2_with fail
  have hcell := fun (j : Nat) v (hv : zs[j]? = some v) => row_cell hway1 (i := j) (by rw [List.getElem?_map, hv]; rfl)
  clear hway1
  refine (wpIn_wide (n := 3)).1 ?_
  refine wpIn_rangeFunc_ownG (α := Nat × ByteArray) rfl (by omega) (gf := 58) (lb := #[.pointer (some ⟨w.heap.size + 1, 0, none⟩)]) rfl trivial (enters_of Tryd.func58 (by kernel_rfl) rfl)
    (back_stops Fence.wide (3 - 1) trivial rfl (by omega) (w.heap.size + 1) w1.heap.size w.heap.size b 0 cap zs hz (by omega) (by omega) (by omega) (by omega) w1 (Nat.le_refl _) bS.cell (fun j v hv => by rw [Nat.zero_add]; exact hcell j v hv))
    KE.trans (fun W l o o' hl ho _ _ => KE.putObj W l o o' hl ho) (Below.refl _ _) (fun _ => rfl)
    (fun pre W => (w1.heap.size ≤ W.heap.size ∧ ∃ v, Boxed W w.heap.size 26 v ∧ HC W ad v ((pre.map (·.2)).reverse, k)) ∧ Below w.heap.size w W)
    (fun _ _ _ => False)
    (OwnFrom.and (Own.from (fun s A B row hs hg hr => by
      obtain ⟨hs0, v, hb, hc⟩ := hs
      refine ⟨Nat.le_trans hs0 hg.size, v, hb.kept hg (fun e => ?_), hc.kept hg hr⟩
      obtain ⟨o, ho, hoc⟩ := hr _ e.symm
      have h3 : A.heap[w.heap.size]? = _ := hb
      rw [h3] at ho
      cases ho
      cases hoc) _) (ownFrom_below (Nat.le_refl _) (by omega)))
    (fun _ _ _ _ _ hs _ _ => hs)
    ⟨⟨Nat.le_refl _, _, bE, by simpa using sent_hc h1 h2⟩, hB0⟩
    (fun x => { tmps := #[.pointer (some ⟨g, 0, none⟩), sv (ad k), .slice (some ⟨b, 0, none⟩) zs.length cap, undef, .pointer (some ⟨w.heap.size, 0, none⟩), undef, undef, .string x.2, .slice (some ⟨b, 0, none⟩) zs.length cap, .func (.func 58) #[] #[.pointer (some ⟨w.heap.size + 1, 0, none⟩)], .int .i64 x.1, .string x.2, undef, undef, undef, undef, undef, undef, undef, undef, undef, undef, undef, undef, undef], defers := [] }) ?assign ?body ?done ?stop
  case assign =>
    intro l x W K hK
    simp only [encB]
    gi_wp2
    exact hK
  case body =>
    rintro l pre x W ⟨⟨hs1, v, hb, hc⟩, hB⟩ _
    have c0 := hb.cell
    have f0 := hb.frozen
    have lE := hb.lt
    have hform := hc.form
    have HB := hide (And.intro hb (And.intro hc hB))
    have HA := hide (at_hc hc x.2)
    clear hb hc hB
    gi_wp2
    refine ⟨trivial, ?_⟩
    refine (CallsIn.inRound l ((callsIn_wide (n := 0)).2 HA.out)).mono ?_
    rintro e w3 ⟨b3, rfl, hc3, hf3⟩
    have h3 := HB.out.1.cell
    have c3 : w3.cell? ⟨w.heap.size, 0, none⟩ = some v := (hf3.cell (p := ⟨w.heap.size, 0, none⟩) lE (by simp)).trans c0
    have bx3 : Boxed w3 w.heap.size 26 v := (Blk.fr0 (t := 26) (cs := #[v]) HB.out.1 hf3)
    have f3 := bx3.frozen
    have H3 := hide (And.intro hc3 (And.intro hf3 bx3))
    clear hc3 hf3 bx3 HA h3
    gi_wp2
    have hf4 : Fr [w.heap.size] W (w3.setCell ⟨w.heap.size, 0, none⟩ (bv b3)) := (H3.out.2.1.any _).setCell (by simp) _
    refine ⟨?_, KE.of_fr hf4 hs1, ?_, ?_⟩
    · exact ((fr_keeps H3.out.2.1).trans (KeepsOthers.setCell _ _ _)).from _
    · refine ⟨Nat.le_trans hs1 hf4.size, _, H3.out.2.2.set _, ?_⟩
      rw [List.map_append, List.reverse_append]
      exact H3.out.1.frT ((Fr.refl [w.heap.size] w3).setCell (by simp) _) (fun q hq => by rw [List.mem_singleton] at hq; subst hq; exact ⟨_, _, H3.out.2.2, by decide⟩)
    · exact HB.out.2.2.trans (hf4.below (by simp) (Nat.le_of_lt lE))
  case done =>
    rintro D ys W hD rfl ⟨⟨hs1, v, hb, hc⟩, hB⟩ hK
    rw [backs_all, List.reverse_reverse] at hc
    have hfw := Fr.of_below hB []
    have c0 := hb.cell
    have lE := hb.lt
    obtain ⟨hg, hE, hL⟩ := HH.out
    have hg' := hg.fr0 hfw
    have hE' := row_fr hE hfw (by simp)
    have g0 := hg'.at_ 0 (v := sl) rfl
    have g1 := hg'.frozen 0
    have lg' := hg'.lt
    have hne : sl.ownBlock ≠ some g := row_blk_ne hE' hg' (by decide)
    have hBW : B ≤ W.heap.size := by omega
    have HX := hide (And.intro hg' (And.intro hE' (And.intro (hL.fr0 hfw) (And.intro hc (And.intro hfw (And.intro hne hK))))))
    have hform := hc.form
    clear hb hc hB hg hE hL hfw hg' hE' hK hne
    rcases hform with ⟨bb, rfl⟩ | ⟨aa, rfl⟩
    all_goals
      go_wp2_with fail
      refine wp_normal ?_
      go_region_law (first | (refine step_append_lies _ (by rfl) _ _ _ (by rfl) B 26 i0 _ 1 16 Tryd.underlying86 hi0 hz0 hs0 hb0 rfl (by omega) sl cs.length vs (by rfl) (row_fr HX.out.2.1 (show Fr [] W _ by (repeat (first | exact Fr.refl _ _ | apply Fr.drew | apply Fr.drewN | apply Fr.alloc | (refine Fr.setCell ?_ (by first | (left; simp [Value.ownBlock]; done) | (right; simp; omega) | (right; simp; done)) _)))) (by simp)) ⟨W.heap.size, 0, none⟩ 1 1 [bv bb] (by rfl) (by rfl) (World.news_of_block (cs := #[bv bb]) (t := 26) (fr := (0, 0)) (Blk.new_at _ _ _ _ (by simp))) (by simp [Value.oneCell']) (by omega) (by unfold maxLen; omega) (by omega) (by simp; omega) (W.heap.size + 1) (by simp) ?_; intro gg cap3 w4 hown hgrow hat hlt; have hg4 : Blk w4 g 88 #[sl] := (HX.out.1.fr0 (show Fr [] W _ by (repeat (first | exact Fr.refl _ _ | apply Fr.drew | apply Fr.drewN | apply Fr.alloc | (refine Fr.setCell ?_ (by first | (left; simp [Value.ownBlock]; done) | (right; simp; omega) | (right; simp; done)) _))))).grown hgrow (fun e => HX.out.2.2.2.2.2.1 e.symm); have HEnd := hide (note_end hBg lg HX.out.2.2.2.2.1 HX.out.1 HX.out.2.1 HX.out.2.2.1 HX.out.2.2.2.1 (show Fr [] W _ by (repeat (first | exact Fr.refl _ _ | apply Fr.drew | apply Fr.drewN | apply Fr.alloc | (refine Fr.setCell ?_ (by first | (left; simp [Value.ownBlock]; done) | (right; simp; omega) | (right; simp; done)) _)))) hgrow hown (by simpa using hat)); have HK4 := hide (((fr_keeps (show Fr [] W _ by (repeat (first | exact Fr.refl _ _ | apply Fr.drew | apply Fr.drewN | apply Fr.alloc | (refine Fr.setCell ?_ (by first | (left; simp [Value.ownBlock]; done) | (right; simp; omega) | (right; simp; done)) _))))).trans ((KeepsOthers.of_grownBy hgrow (own_cells (row_fr HX.out.2.1 (show Fr [] W _ by (repeat (first | exact Fr.refl _ _ | apply Fr.drew | apply Fr.drewN | apply Fr.alloc | (refine Fr.setCell ?_ (by first | (left; simp [Value.ownBlock]; done) | (right; simp; omega) | (right; simp; done)) _)))) (by simp)))).trans (KeepsOthers.setCell w4 ⟨g, 0, none⟩ (.slice (some ⟨gg, 0, none⟩) (cs.length + 1) cap3)))).same D _ HX.out.2.2.2.2.2.2 rfl); have c4 := hg4.at_ 0 (v := sl) rfl; have f4 := hg4.frozen 0; have l4 := hg4.lt; clear hg4 hown hgrow hat hlt) | (refine step_append_lies _ (by rfl) _ _ _ (by rfl) B 26 i0 _ 1 16 Tryd.underlying86 hi0 hz0 hs0 hb0 rfl (by omega) sl cs.length vs (by rfl) (row_fr HX.out.2.1 (show Fr [] W _ by (repeat (first | exact Fr.refl _ _ | apply Fr.drew | apply Fr.drewN | apply Fr.alloc | (refine Fr.setCell ?_ (by first | (left; simp [Value.ownBlock]; done) | (right; simp; omega) | (right; simp; done)) _)))) (by simp)) ⟨W.heap.size, 0, none⟩ 1 1 [sv aa] (by rfl) (by rfl) (World.news_of_block (cs := #[sv aa]) (t := 26) (fr := (0, 0)) (Blk.new_at _ _ _ _ (by simp))) (by simp [Value.oneCell']) (by omega) (by unfold maxLen; omega) (by omega) (by simp; omega) (W.heap.size + 1) (by simp) ?_; intro gg cap3 w4 hown hgrow hat hlt; have hg4 : Blk w4 g 88 #[sl] := (HX.out.1.fr0 (show Fr [] W _ by (repeat (first | exact Fr.refl _ _ | apply Fr.drew | apply Fr.drewN | apply Fr.alloc | (refine Fr.setCell ?_ (by first | (left; simp [Value.ownBlock]; done) | (right; simp; omega) | (right; simp; done)) _))))).grown hgrow (fun e => HX.out.2.2.2.2.2.1 e.symm); have HEnd := hide (note_end hBg lg HX.out.2.2.2.2.1 HX.out.1 HX.out.2.1 HX.out.2.2.1 HX.out.2.2.2.1 (show Fr [] W _ by (repeat (first | exact Fr.refl _ _ | apply Fr.drew | apply Fr.drewN | apply Fr.alloc | (refine Fr.setCell ?_ (by first | (left; simp [Value.ownBlock]; done) | (right; simp; omega) | (right; simp; done)) _)))) hgrow hown (by simpa using hat)); have HK4 := hide (((fr_keeps (show Fr [] W _ by (repeat (first | exact Fr.refl _ _ | apply Fr.drew | apply Fr.drewN | apply Fr.alloc | (refine Fr.setCell ?_ (by first | (left; simp [Value.ownBlock]; done) | (right; simp; omega) | (right; simp; done)) _))))).trans ((KeepsOthers.of_grownBy hgrow (own_cells (row_fr HX.out.2.1 (show Fr [] W _ by (repeat (first | exact Fr.refl _ _ | apply Fr.drew | apply Fr.drewN | apply Fr.alloc | (refine Fr.setCell ?_ (by first | (left; simp [Value.ownBlock]; done) | (right; simp; omega) | (right; simp; done)) _)))) (by simp)))).trans (KeepsOthers.setCell w4 ⟨g, 0, none⟩ (.slice (some ⟨gg, 0, none⟩) (cs.length + 1) cap3)))).same D _ HX.out.2.2.2.2.2.2 rfl); have c4 := hg4.at_ 0 (v := sl) rfl; have f4 := hg4.frozen 0; have l4 := hg4.lt; clear hg4 hown hgrow hat hlt))
      all_goals
        go_wp2_with fail
        have hD4 : (w4.setCell ⟨g, 0, none⟩ (.slice (some ⟨gg, 0, none⟩) (cs.length + 1) cap3)).heap[D]? = some (.deferred (some [])) := HK4.out
        refine ⟨by simp, .inl ⟨_, _, rfl, run_takeDeferred hD4, ?_⟩⟩
        exact ⟨_, results_none rfl _ _ _, rfl, [g, gg], HEnd.out.1.put _ hD4 rfl, HEnd.out.2.put (by omega) hD4⟩
  case stop =>
    rintro D c pre W _ _ h _
    exact h.elim
end Go.Proofs.YtnncbmbepdkfnaaDoor

/- Journal: Mark. -/
import Derived.Test.YtioeafjlbdpjoaaDoorJour
namespace Go.Proofs.YtioeafjlbdpjoaaDoor
open Go.RowKit
theorem infoPs : (Tryd.prog.info? 68).map (fun i => (i.zero, i.size, i.bytes)) = some (some (.pointer none), 1, 8) := by kernel_rfl
/-- whether a frame may be marked -/
def MarkOk (sts : List St) (f : Int) : Prop := 0 ≤ f ∧ f ≤ 1073741824 ∧ ∀ s, sts.getLast? = some s → s.fr < f
/-- the stretch that Mark appends -/
theorem mark_end {B : Nat} {w W w4 : World} {g gg o cap p m : Nat} {sl : Value} {rs : List Sr} {Q : List Nat} {most size f : Int}
    (hfw : Fr [] w W) (hB : B ≤ w.heap.size) (h2 : Blk w g 67 #[sl, .int .i64 most, .int .i64 size]) (h3 : RowO w B 68 sl rs.length (rs.map fun x => ptr x.1)) (h4 : ∀ x ∈ rs, StR B (· ∈ Q) w x.1 x.2.1 x.2.2) (h5 : B ≤ g) (h6 : (rs.flatMap (·.2.2)).Nodup)
    (h7 : ∀ b ∈ Q, b ∉ g :: (sl.ownBlock.toList ++ rs.flatMap (·.2.2)) ∧ B ≤ b ∧ b < w.heap.size)
    (hp : Blk W p 72 #[.int .i64 f, .slice none 0 0, .map (some m)]) (hm : SetB W m []) (lp : w.heap.size ≤ p) (lm : w.heap.size ≤ m)
    (hown : RowO w4 B 68 (.slice (some ⟨gg, o, none⟩) (rs.length + 1) cap) (rs.length + 1) ((rs.map fun x => ptr x.1) ++ [ptr p])) (hgrow : W.grownBy w4 sl.ownBlock) (hat : sl.ownBlock = some gg ∨ gg = W.heap.size) :
    ∃ S', JR B (w4.setCell ⟨g, 0, none⟩ (.slice (some ⟨gg, o, none⟩) (rs.length + 1) cap)) g (rs.map (·.2.1) ++ [⟨f, []⟩]) most size S' ∧ Stp ((g :: (sl.ownBlock.toList ++ rs.flatMap (·.2.2))) ++ Q) S' w (w4.setCell ⟨g, 0, none⟩ (.slice (some ⟨gg, o, none⟩) (rs.length + 1) cap)) := by
  have hsW : W.heap.size ≤ w4.heap.size := hgrow.size
  have hf4 : Fr sl.ownBlock.toList W w4 := (Fr.refl _ W).grown hgrow fun k hk => .inl (by simp [hk])
  have hf5 : Fr (g :: sl.ownBlock.toList) W (w4.setCell ⟨g, 0, none⟩ (.slice (some ⟨gg, o, none⟩) (rs.length + 1) cap)) := (hf4.mono (by simp; exact fun x hx => .inr hx)).setCell (.inl (by simp)) _
  have hfx : Fr (g :: sl.ownBlock.toList) w (w4.setCell ⟨g, 0, none⟩ (.slice (some ⟨gg, o, none⟩) (rs.length + 1) cap)) := (hfw.any _).trans hf5
  have hslg : sl.ownBlock ≠ some g := h3.ne_blk h2 (by decide)
  have hslt : ∀ k, sl.ownBlock = some k → k < w.heap.size := fun k hk => by obtain ⟨cur, hc, _⟩ := h3.blk hk; exact hc.lt
  have houtX : ∀ x ∈ rs, ∀ b ∈ x.2.2, b ∉ g :: sl.ownBlock.toList := by
    intro x hx b hb hm
    simp only [List.mem_cons, Option.mem_toList] at hm
    rcases hm with rfl | hm
    · exact (h4 x hx).out h2 (by decide) (by decide) hb
    · obtain ⟨cur, hc, _⟩ := h3.blk hm
      exact (h4 x hx).out hc (by decide) (by decide) hb
  have hgg : gg ≠ g := by
    rintro rfl
    rcases hat with e | e
    · exact hslg e
    · have := h2.lt; have := hfw.size; omega
  have hpne : p ∉ g :: sl.ownBlock.toList := by
    intro hm
    simp only [List.mem_cons, Option.mem_toList] at hm
    rcases hm with rfl | hm
    · have := h2.lt; omega
    · have := hslt _ hm; omega
  have hmne : m ∉ g :: sl.ownBlock.toList := by
    intro hm
    simp only [List.mem_cons, Option.mem_toList] at hm
    rcases hm with rfl | hm
    · have := h2.lt; omega
    · have := hslt _ hm; omega
  have hg5 : Blk (w4.setCell ⟨g, 0, none⟩ (.slice (some ⟨gg, o, none⟩) (rs.length + 1) cap)) g 67 #[.slice (some ⟨gg, o, none⟩) (rs.length + 1) cap, .int .i64 most, .int .i64 size] := by
    have := ((h2.fr0 hfw).grown hgrow (fun e => hslg e.symm)).set_ 0 (.slice (some ⟨gg, o, none⟩) (rs.length + 1) cap)
    simpa using this
  have hggT : ∀ x ∈ rs, gg ∉ x.2.2 := by
    intro x hx hb
    rcases hat with e | e
    · exact houtX x hx gg hb (by simp [e])
    · have := ((h4 x hx).ge gg hb).2; have := hfw.size; omega
  have hpm : p ≠ m := hm.ne_blk hp
  refine ⟨(g :: ((Value.slice (some ⟨gg, o, none⟩) (rs.length + 1) cap).ownBlock.toList ++ (rs ++ [((p, ⟨f, []⟩, [p, m]) : Sr)]).flatMap (·.2.2))) ++ Q, ⟨_, rs ++ [(p, ⟨f, []⟩, [p, m])], Q, by simp, hg5, ?_, ?_, h5, ?_, ?_, rfl⟩, hfx.mono ?_, ?_⟩
  · rw [List.length_append, List.map_append]
    exact hown.fr (w' := w4.setCell ⟨g, 0, none⟩ (.slice (some ⟨gg, o, none⟩) (rs.length + 1) cap)) (Fr.setCell (S := [g]) (Fr.refl _ _) (p := ⟨g, 0, none⟩) (.inl (by simp)) _) (fun k hk hm => by
      rw [List.mem_singleton] at hm
      exact hgg (by rw [← hm]; exact Option.some.inj hk))
  · intro x hx
    rcases List.mem_append.1 hx with hx | hx
    · exact (h4 x hx).fr' hfx (houtX x hx) (fun b hb hm => (h7 b hb).1 (by simp only [List.mem_cons, Option.mem_toList, List.mem_append] at hm ⊢; exact hm.imp id .inl))
    · rw [List.mem_singleton] at hx
      subst hx
      exact ⟨.slice none 0 0, m, [], hp.fr hf5 hpne, World.ownsRow_nil _ _ _ _, hm.fr hf5 hmne, rfl, by simp, by show B ≤ p; omega, by omega, rfl⟩
  · rw [List.flatMap_append, List.nodup_append]
    refine ⟨h6, by simp [hpm], fun a ha b hb => ?_⟩
    obtain ⟨x, hx, ha⟩ := List.mem_flatMap.1 ha
    have := ((h4 x hx).ge a ha).2
    simp at hb
    rcases hb with rfl | rfl <;> omega
  · intro b hb
    obtain ⟨q1, q2, q3⟩ := h7 b hb
    refine ⟨fun hm => ?_, q2, Nat.lt_of_lt_of_le q3 hfx.size⟩
    simp only [List.mem_cons, List.mem_append, List.flatMap_append, Option.mem_toList, List.flatMap_cons, List.flatMap_nil, List.append_nil, List.not_mem_nil, or_false, not_or] at hm q1
    rcases hm with rfl | hm | hm | rfl | rfl
    · exact q1.1 rfl
    · have e : gg = b := Option.some.inj hm
      subst e
      rcases hat with e | e
      · exact q1.2.1 e
      · have := hfw.size; omega
    · exact q1.2.2 hm
    · omega
    · omega
  · intro b hb
    simp only [List.mem_cons, List.mem_append, Option.mem_toList] at hb ⊢
    exact .inl (hb.imp id .inl)
  · intro b hb
    simp only [List.mem_cons, List.mem_append, List.flatMap_append, Option.mem_toList, List.flatMap_cons, List.flatMap_nil, List.append_nil, List.not_mem_nil, or_false] at hb ⊢
    rcases hb with (rfl | hm | hm | rfl | rfl) | hb
    · exact .inl (.inl (.inl rfl))
    · have e : gg = b := Option.some.inj hm
      subst e
      rcases hat with e | e
      · exact .inl (.inl (.inr (.inl e)))
      · exact .inr (by rw [e]; exact hfw.size)
    · exact .inl (.inl (.inr (.inr hm)))
    · exact .inr lp
    · exact .inr lm
    · exact .inl (.inr hb)
def MarkPost (B : Nat) (w : World) (g : Nat) (sts : List St) (most size : Int) (S : List Nat) (e : Ending) (w' : World) : Prop := e = .returned .nilIface ∧ ∃ S', JR B w' g sts most size S' ∧ Stp S S' w w'
def ErrPost (w : World) (ad : Nat → Addr) (k : Nat) (e : Ending) (w' : World) : Prop := ∃ v, e = .returned v ∧ NewErr w w' ad v k ∧ Fr [] w w'
set_option maxRecDepth 100000 in
set_option maxHeartbeats 2000000 in
theorem mark_nil {K : List Nat} {B : Nat} {w : World} {ad : Nat → Addr} (hK : KJ K) (hs : Sents K B w ad) (f : Int) : Calls Tryd.prog 9 #[.pointer none, .int .i64 f] w (ErrPost w ad 2) := by
  have c1 := hs.cell 2 hK.h2
  have l1 := Nat.lt_of_lt_of_le (hs.glob 2 hK.h2) hs.le
  have HW := hide (wrong_calls (w := w) (ad := ad) 2)
  simp only [gOf] at c1 l1
  clear hs hK
  go_enter Tryd.func9, Tryd.ntmps9
  go_wp2_with fail
  refine HW.out.mono ?_
  rintro e w' ⟨v, rfl, hn, hf⟩
  have H2 := hide (And.intro hn hf)
  obtain ⟨t, a, rfl⟩ := hn.form
  clear hn hf
  go_wp2_with fail
  go_ret
  exact ⟨_, rfl, H2.out.1, H2.out.2⟩
set_option maxRecDepth 100000 in
set_option maxHeartbeats 4000000 in
theorem mark_calls {B : Nat} {w : World} {g : Nat} {sts : List St} {most size : Int} {S : List Nat} (h : JR B w g sts most size S) (hB : B ≤ w.heap.size) (hn : sts.length ≤ 100000) {f : Int} (hok : MarkOk sts f) :
    Calls Tryd.prog 9 #[ptr g, .int .i64 f] w (MarkPost B w g (sts ++ [⟨f, []⟩]) most size S) := by
  obtain ⟨sl, rs, Q, rfl, h2, h3, h4, h5, h6, h7, rfl⟩ := h
  obtain ⟨i0, hi0, hz0, hs0, hb0⟩ := info_parts infoPs
  have hmm := @run_makeMap Tryd.prog
  obtain ⟨f0, f1, f2⟩ := hok
  have f0' : decide (f < 0) = false := decide_eq_false (by omega)
  have f1' : decide (1073741824 < f) = false := decide_eq_false (by omega)
  rw [List.length_map] at hn
  have hB2 := hB
  have HH := hide (And.intro h2 (And.intro h3 (And.intro h4 (And.intro h5 (And.intro h6 (And.intro h7 hB))))))
  obtain ⟨S0, hS0⟩ : ∃ S0, S0 = (g :: (sl.ownBlock.toList ++ rs.flatMap (·.2.2))) ++ Q := ⟨_, rfl⟩
  obtain ⟨T0, hT0⟩ : ∃ T0, T0 = rs.map (·.2.1) ++ [⟨f, []⟩] := ⟨_, rfl⟩
  rw [← hS0, ← hT0]
  have HC : Hid (Calls Tryd.prog 29 #[ptr g] w fun e w' => e = .returned (.pointer none) ∧ w = w') ∨ ∃ (xp : Nat) (xf : Int), decide (f ≤ xf) = false ∧ (∃ uv mv, Hid (Blk w xp 72 #[.int .i64 xf, uv, mv])) ∧ Hid (Calls Tryd.prog 29 #[ptr g] w fun e w' => e = .returned (ptr xp) ∧ Fr [] w w') := by
    rcases List.eq_nil_or_concat rs with rfl | ⟨rs', x, rfl⟩
    · exact .inl (hide (last_none h2 h3))
    · rw [List.concat_eq_append] at *
      obtain ⟨uv, mv, hxb⟩ := (h4 x (by simp)).frame
      have hlt := f2 x.2.1 (by simp)
      exact .inr ⟨x.1, x.2.1.fr, decide_eq_false (by omega), ⟨uv, mv, hide hxb⟩, hide (last_some h2 h3 (by simp at hn; omega))⟩
  have HS := hide (And.intro hS0 hT0)
  clear h2 h3 h4 h5 h6 h7 f2 hS0 hT0
  rcases HC with hL | ⟨xp, xf, f3, ⟨uv, mv, hxb⟩, hL⟩
  · go_enter Tryd.func9, Tryd.ntmps9
    go_wp2_with fail
    refine hL.out.mono ?_
    rintro e w1 ⟨rfl, rfl⟩
    have H1 := hide (Fr.refl [] w)
    have g1 := (HH.out.1.fr0 H1.out)
    have c0 := g1.at_ 0 (v := sl) rfl
    have z0 := g1.frozen 0
    have lg := g1.lt
    clear g1 hL
    go_wp2_with (at_builtin; refine wpList_append_rowO rfl _ _ _ rfl B 68 i0 _ 8 Tryd.underlying65 hi0 hz0 hs0 hb0 rfl sl rs.length (rs.map fun x => ptr x.1) rfl (HH.out.2.1.fr0 (show Fr [] w _ by exact ((H1.out.alloc _).alloc _).alloc _)) ⟨w.heap.size + 1 + 1, 0, none⟩ 1 (ptr (w.heap.size + 1)) rfl ((Blk.new_at _ 68 #[ptr (w.heap.size + 1)] _ (by simp)).at_ 0 rfl) rfl (by unfold maxLen; omega) (by omega) (by simp; have := H1.out.size; omega) (w.heap.size + 1 + 1 + 1) (by simp) ?_; intro gg o cap w4 hown hgrow hat hlt; have g4 := (HH.out.1.fr0 (show Fr [] w _ by exact ((H1.out.alloc _).alloc _).alloc _)).grown hgrow (fun e => HH.out.2.1.ne_blk HH.out.1 (by decide) e.symm); have c4 := g4.at_ 0 (v := sl) rfl; have z4 := g4.frozen 0; have l4 := g4.lt; have H4 := hide (And.intro hown (And.intro hgrow hat)); clear hown hgrow hat hlt g4)
    go_ret
    refine ⟨rfl, ?_⟩
    rw [HS.out.1, HS.out.2]
    exact mark_end (W := ((w.alloc (.map #[] 0)).alloc (.cells #[.int .i64 f, .slice none 0 0, .map (some w.heap.size)] 72)).alloc (.cells #[ptr (w.heap.size + 1)] 68)) (((H1.out.alloc _).alloc _).alloc _) HH.out.2.2.2.2.2.2 HH.out.1 HH.out.2.1 HH.out.2.2.1 HH.out.2.2.2.1 HH.out.2.2.2.2.1 HH.out.2.2.2.2.2.1 ((Blk.new_at _ _ _ (w.heap.size + 1) (by simp)).alloc _) ((SetB.new_at _ _ rfl).fr0 (((Fr.refl _ _).alloc _).alloc _)) (by have := H1.out.size; omega) H1.out.size H4.out.1 H4.out.2.1 (H4.out.2.2.imp id (fun e => by simpa using e))
  · go_enter Tryd.func9, Tryd.ntmps9
    go_wp2_with fail
    refine hL.out.mono ?_
    rintro e w1 ⟨rfl, hf1⟩
    have xb := (hxb.out.fr0 hf1).at_ 0 (v := .int .i64 xf) rfl
    have lx := (hxb.out.fr0 hf1).lt
    have H1 := hide hf1
    clear hxb hf1
    have g1 := (HH.out.1.fr0 H1.out)
    have c0 := g1.at_ 0 (v := sl) rfl
    have z0 := g1.frozen 0
    have lg := g1.lt
    clear g1 hL
    go_wp2_with (at_builtin; refine wpList_append_rowO rfl _ _ _ rfl B 68 i0 _ 8 Tryd.underlying65 hi0 hz0 hs0 hb0 rfl sl rs.length (rs.map fun x => ptr x.1) rfl (HH.out.2.1.fr0 (show Fr [] w _ by exact ((H1.out.alloc _).alloc _).alloc _)) ⟨w1.heap.size + 1 + 1, 0, none⟩ 1 (ptr (w1.heap.size + 1)) rfl ((Blk.new_at _ 68 #[ptr (w1.heap.size + 1)] _ (by simp)).at_ 0 rfl) rfl (by unfold maxLen; omega) (by omega) (by simp; have := H1.out.size; omega) (w1.heap.size + 1 + 1 + 1) (by simp) ?_; intro gg o cap w4 hown hgrow hat hlt; have g4 := (HH.out.1.fr0 (show Fr [] w _ by exact ((H1.out.alloc _).alloc _).alloc _)).grown hgrow (fun e => HH.out.2.1.ne_blk HH.out.1 (by decide) e.symm); have c4 := g4.at_ 0 (v := sl) rfl; have z4 := g4.frozen 0; have l4 := g4.lt; have H4 := hide (And.intro hown (And.intro hgrow hat)); clear hown hgrow hat hlt g4)
    go_ret
    refine ⟨rfl, ?_⟩
    rw [HS.out.1, HS.out.2]
    exact mark_end (W := ((w1.alloc (.map #[] 0)).alloc (.cells #[.int .i64 f, .slice none 0 0, .map (some w1.heap.size)] 72)).alloc (.cells #[ptr (w1.heap.size + 1)] 68)) (((H1.out.alloc _).alloc _).alloc _) HH.out.2.2.2.2.2.2 HH.out.1 HH.out.2.1 HH.out.2.2.1 HH.out.2.2.2.1 HH.out.2.2.2.2.1 HH.out.2.2.2.2.2.1 ((Blk.new_at _ _ _ (w1.heap.size + 1) (by simp)).alloc _) ((SetB.new_at _ _ rfl).fr0 (((Fr.refl _ _).alloc _).alloc _)) (by have := H1.out.size; omega) H1.out.size H4.out.1 H4.out.2.1 (H4.out.2.2.imp id (fun e => by simpa using e))
end Go.Proofs.YtioeafjlbdpjoaaDoor

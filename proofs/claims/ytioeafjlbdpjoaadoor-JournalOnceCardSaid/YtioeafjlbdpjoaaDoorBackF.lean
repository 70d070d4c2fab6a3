/- Journal: Since in all cases; Back. -/
import Derived.Test.YtioeafjlbdpjoaaDoorSinceJ
namespace Go.Proofs.YtioeafjlbdpjoaaDoor
open Go.RowKit
set_option maxRecDepth 100000 in
set_option maxHeartbeats 2000000 in
theorem since_err {w : World} {ad : Nat → Addr} {pv : Value} {k : Nat} {f : Int} (hP : Calls Tryd.prog 34 #[pv, .int .i64 f] w fun e w' => ∃ v, e = .returned (.tuple #[.int .i64 0, v]) ∧ NewErr w w' ad v k ∧ Fr [] w w') :
    Calls Tryd.prog 11 #[pv, .int .i64 f] w fun e w' => ∃ v, e = .returned (.tuple #[.slice none 0 0, v]) ∧ NewErr w w' ad v k ∧ Fr [] w w' := by
  have HP := hide hP
  clear hP
  go_enter Tryd.func11, Tryd.ntmps11
  go_wp2_with fail
  refine HP.out.mono ?_
  rintro e w1 ⟨v, rfl, hn, hf⟩
  have H1 := hide (And.intro hn hf)
  obtain ⟨t, a, rfl⟩ := hn.form
  have n1 : ∀ (W : World), (binOp .neq 26 (.iface t (.pointer (some a))) .nilIface).run Tryd.prog W = .ok (.bool true) W := fun W => run_neq_held_nil W 26 t _ (by kernel_rfl)
  clear hn hf
  go_wp2_with fail
  go_ret2
  exact ⟨_, rfl, H1.out.1, H1.out.2⟩
theorem since_calls {K : List Nat} {B0 B : Nat} {w : World} {ad : Nat → Addr} (hK : KJ K) (hs : Sents K B0 w ad) {g : Nat} {sts : List St} {most size : Int} {S : List Nat} (h : JR B w g sts most size S) (hn : sts.length ≤ 100000) (hu : ∀ s ∈ sts, s.us.length ≤ 65536) (f : Int) :
    Calls Tryd.prog 11 #[ptr g, .int .i64 f] w (SincePost w ad sts f) := by
  have hP := place_calls hK hs h hn f
  unfold SincePost
  cases hp : placeOf (sts.map (·.fr)) f with
  | some i =>
    rw [hp] at hP
    exact since_some h hn hu hp hP
  | none =>
    rw [hp] at hP
    exact since_err hP
theorem since_nil {K : List Nat} {B : Nat} {w : World} {ad : Nat → Addr} (hK : KJ K) (hs : Sents K B w ad) (f : Int) :
    Calls Tryd.prog 11 #[.pointer none, .int .i64 f] w fun e w' => ∃ v, e = .returned (.tuple #[.slice none 0 0, v]) ∧ NewErr w w' ad v 2 ∧ Fr [] w w' := since_err (place_nil hK hs f)
/-! Back -/
set_option maxRecDepth 100000 in
set_option maxHeartbeats 2000000 in
theorem back_err {w : World} {ad : Nat → Addr} {pv : Value} {k : Nat} {f : Int} (hP : Calls Tryd.prog 11 #[pv, .int .i64 f] w fun e w' => ∃ v, e = .returned (.tuple #[.slice none 0 0, v]) ∧ NewErr w w' ad v k ∧ Fr [] w w') :
    Calls Tryd.prog 12 #[pv, .int .i64 f] w fun e w' => ∃ v, e = .returned (.tuple #[.slice none 0 0, v]) ∧ NewErr w w' ad v k ∧ Fr [] w w' := by
  have HP := hide hP
  clear hP
  go_enter Tryd.func12, Tryd.ntmps12
  go_wp2_with fail
  refine HP.out.mono ?_
  rintro e w1 ⟨v, rfl, hn, hf⟩
  have H1 := hide (And.intro hn hf)
  obtain ⟨t, a, rfl⟩ := hn.form
  have n1 : ∀ (W : World), (binOp .neq 26 (.iface t (.pointer (some a))) .nilIface).run Tryd.prog W = .ok (.bool true) W := fun W => run_neq_held_nil W 26 t _ (by kernel_rfl)
  clear hn hf
  go_wp2_with fail
  go_ret2
  exact ⟨_, rfl, H1.out.1, H1.out.2⟩
theorem OutV.keep {B : Nat} {w w' : World} {v : Value} {us : List Un} {T : List Nat} (h : OutV B w v us) (hf : Fr T w w') (hT : ∀ b ∈ T, b < B) : OutV B w' v us := by
  obtain ⟨ds, h1, h2, h3⟩ := h
  exact ⟨ds, row_fr h1 hf (fun k hk hm => by have := (row_lt h1 hk).2; have := hT k hm; omega), h2, fun d hd => (h3 d hd).keep hf (fun b hb hm => by have := hT b hm; have := hb.1; omega)⟩
theorem OutV.form {B : Nat} {w : World} {v : Value} {us : List Un} (h : OutV B w v us) : ∃ A c, v = .slice A us.length c := by
  obtain ⟨ds, h1, h2, h3⟩ := h
  rcases row_form h1 with ⟨rfl, h0, _⟩ | ⟨g, cap, rfl, _⟩
  · exact ⟨none, 0, by rw [h0]⟩
  · exact ⟨_, _, rfl⟩
/-- fewer stretches -/
theorem jr_sub {B : Nat} {w : World} {g : Nat} {sl sl' : Value} {most size : Int} {rs rs' : List Sr} {Q : List Nat} (hsub : rs'.Sublist rs) (h2 : Blk w g 67 #[sl, .int .i64 most, .int .i64 size]) (h3 : RowO w B 68 sl' rs'.length (rs'.map fun x => ptr x.1)) (hb : sl'.ownBlock = sl.ownBlock)
    (h4 : ∀ x ∈ rs, StR B (· ∈ Q) w x.1 x.2.1 x.2.2) (h5 : B ≤ g) (h6 : (rs.flatMap (·.2.2)).Nodup) (h7 : ∀ b ∈ Q, b ∉ g :: (sl.ownBlock.toList ++ rs.flatMap (·.2.2)) ∧ B ≤ b ∧ b < w.heap.size) (h3o : RowO w B 68 sl rs.length (rs.map fun x => ptr x.1)) :
    ∃ S', JR B (w.setCell ⟨g, 0, none⟩ sl') g (rs'.map (·.2.1)) most size S' ∧ ∀ b ∈ S', b ∈ (g :: (sl.ownBlock.toList ++ rs.flatMap (·.2.2))) ++ Q := by
  have hslg : sl.ownBlock ≠ some g := h3o.ne_blk h2 (by decide)
  have hf : Fr [g] w (w.setCell ⟨g, 0, none⟩ sl') := (Fr.refl _ _).setCell (.inl (by simp)) _
  have hfl : ∀ b ∈ rs'.flatMap (·.2.2), b ∈ rs.flatMap (·.2.2) := fun b hb => by
    obtain ⟨x, hx, hb⟩ := List.mem_flatMap.1 hb
    exact List.mem_flatMap.2 ⟨x, hsub.subset hx, hb⟩
  have hM : ∀ b ∈ g :: (sl'.ownBlock.toList ++ rs'.flatMap (·.2.2)), b ∈ g :: (sl.ownBlock.toList ++ rs.flatMap (·.2.2)) := fun b hbm => by
    rw [hb] at hbm
    simp only [List.mem_cons, List.mem_append] at hbm ⊢
    exact hbm.imp id (fun h => h.imp id (hfl b))
  have hnd : (rs'.flatMap (·.2.2)).Nodup := by
    clear h7 h3o h4 hfl hM h3
    induction hsub with
    | slnil => exact h6
    | cons a _ ih =>
      rw [List.flatMap_cons, List.nodup_append] at h6
      exact ih h6.2.1
    | cons_cons a hs ih =>
      rw [List.flatMap_cons, List.nodup_append] at h6 ⊢
      refine ⟨h6.1, ih h6.2.1, fun x hx y hy => h6.2.2 x hx y ?_⟩
      obtain ⟨z, hz, hy⟩ := List.mem_flatMap.1 hy
      exact List.mem_flatMap.2 ⟨z, hs.subset hz, hy⟩
  refine ⟨(g :: (sl'.ownBlock.toList ++ rs'.flatMap (·.2.2))) ++ Q, ⟨sl', rs', Q, rfl, by simpa using h2.set_ 0 sl', h3.fr hf (fun k hk hm => hslg (by rw [← hb, hk]; simpa using hm)), ?_, h5, hnd, fun b hbq => ⟨fun hm => (h7 b hbq).1 (hM b hm), (h7 b hbq).2.1, Nat.lt_of_lt_of_le (h7 b hbq).2.2 hf.size⟩, rfl⟩, fun b hbm => ?_⟩
  · intro x hx
    exact (h4 x (hsub.subset hx)).fr' hf (fun b hbx hm => by
      rw [List.mem_singleton] at hm
      subst hm
      exact (h4 x (hsub.subset hx)).out h2 (by decide) (by decide) hbx) (fun b hbq hm => by
      rw [List.mem_singleton] at hm
      subst hm
      exact (h7 b hbq).1 (by simp))
  · rcases List.mem_append.1 hbm with hbm | hbm
    · exact List.mem_append_left _ (hM b hbm)
    · exact List.mem_append_right _ hbm
theorem JR.setSize {B : Nat} {w : World} {g : Nat} {sts : List St} {most size : Int} {S : List Nat} (h : JR B w g sts most size S) (n : Int) : JR B (w.setCell ⟨g, 2, none⟩ (.int .i64 n)) g sts most n S := by
  obtain ⟨sl, rs, Q, h1, h2, h3, h4, h5, h6, h7, rfl⟩ := h
  have hf : Fr [g] w (w.setCell ⟨g, 2, none⟩ (.int .i64 n)) := (Fr.refl _ _).setCell (.inl (by simp)) _
  refine ⟨sl, rs, Q, h1, by simpa using h2.set_ 2 (.int .i64 n), h3.fr hf (fun k hk hm => h3.ne_blk h2 (by decide) (by rw [hk]; simpa using hm)), ?_, h5, h6, fun b hbq => ⟨(h7 b hbq).1, (h7 b hbq).2.1, Nat.lt_of_lt_of_le (h7 b hbq).2.2 hf.size⟩, rfl⟩
  intro x hx
  exact (h4 x hx).fr' hf (fun b hbx hm => by
    rw [List.mem_singleton] at hm
    subst hm
    exact (h4 x hx).out h2 (by decide) (by decide) hbx) (fun b hbq hm => by
    rw [List.mem_singleton] at hm
    subst hm
    exact (h7 b hbq).1 (by simp))
/-- the first i stretches -/
theorem JR.cut {B : Nat} {w : World} {g : Nat} {sts : List St} {most size : Int} {S : List Nat} (h : JR B w g sts most size S) {i : Nat} (hi : i < sts.length) :
    ∃ gg o c, Blk w g 67 #[.slice (some ⟨gg, o, none⟩) sts.length c, .int .i64 most, .int .i64 size] ∧ sts.length ≤ c ∧ c ≤ maxLen ∧ ∃ S', JR B (w.setCell ⟨g, 0, none⟩ (.slice (some ⟨gg, o, none⟩) i c)) g (sts.take i) most size S' ∧ ∀ b ∈ S', b ∈ S := by
  obtain ⟨sl, rs, Q, rfl, h2, h3, h4, h5, h6, h7, rfl⟩ := h
  rw [List.length_map] at hi
  rcases h3.form with ⟨_, h0, _⟩ | ⟨gg, o, c, rfl, _, _, h8, h9⟩
  · omega
  refine ⟨gg, o, c, by rw [List.length_map]; exact h2, by rw [List.length_map]; exact h8, h9, ?_⟩
  have hr := h3.cut (k := i) (by omega)
  rw [← List.map_take] at hr
  have := jr_sub (rs' := rs.take i) (sl' := .slice (some ⟨gg, o, none⟩) i c) (List.take_sublist i rs) h2 (by rw [List.length_take, Nat.min_eq_left (by omega)]; exact hr) rfl h4 h5 h6 h7 h3
  rwa [List.map_take] at this
/-- all but the first k stretches -/
theorem JR.tail {B : Nat} {w : World} {g : Nat} {sts : List St} {most size : Int} {S : List Nat} (h : JR B w g sts most size S) (hn : 0 < sts.length) :
    ∃ gg o c, Blk w g 67 #[.slice (some ⟨gg, o, none⟩) sts.length c, .int .i64 most, .int .i64 size] ∧ sts.length ≤ c ∧ c ≤ maxLen ∧ ∀ k, k ≤ sts.length → ∃ S', JR B (w.setCell ⟨g, 0, none⟩ (.slice (some ⟨gg, o + k, none⟩) (sts.length - k) (c - k))) g (sts.drop k) most size S' ∧ ∀ b ∈ S', b ∈ S := by
  obtain ⟨sl, rs, Q, rfl, h2, h3, h4, h5, h6, h7, rfl⟩ := h
  rw [List.length_map] at hn
  rcases h3.form with ⟨_, h0, _⟩ | ⟨gg, o, c, rfl, _, _, h8, h9⟩
  · omega
  refine ⟨gg, o, c, by rw [List.length_map]; exact h2, by rw [List.length_map]; exact h8, h9, fun k hk => ?_⟩
  rw [List.length_map] at hk ⊢
  have hr := h3.tail (k := k) hk
  rw [← List.map_drop] at hr
  have := jr_sub (rs' := rs.drop k) (sl' := .slice (some ⟨gg, o + k, none⟩) (rs.length - k) (c - k)) (List.drop_sublist k rs) h2 (by rw [List.length_drop]; exact hr) rfl h4 h5 h6 h7 h3
  rwa [List.map_drop] at this
/-- the marks rise -/
structure Rising (sts : List St) : Prop where
  lo : ∀ s ∈ sts, 0 ≤ s.fr ∧ s.fr ≤ 1073741824
  up : (sts.map (·.fr)).Pairwise (· < ·)
def entries (sts : List St) : List Un := sts.flatMap (·.us)
theorem place_spec {sts : List St} {f : Int} {i : Nat} (h : placeOf (sts.map (·.fr)) f = some i) : ∃ s, sts[i]? = some s ∧ s.fr = f := by
  unfold placeOf at h
  rw [List.findIdx?_eq_some_iff_getElem] at h
  obtain ⟨hi, h1, _⟩ := h
  rw [List.length_map] at hi
  exact ⟨sts[i], by simp, by simpa using h1⟩
theorem mark_ok_take {sts : List St} (hr : Rising sts) {f : Int} {i : Nat} (h : placeOf (sts.map (·.fr)) f = some i) : MarkOk (sts.take i) f := by
  obtain ⟨s, hs, rfl⟩ := place_spec h
  obtain ⟨l1, l2⟩ := hr.lo s (List.mem_of_getElem? hs)
  refine ⟨l1, l2, fun t ht => ?_⟩
  have hup := hr.up
  have hi := (List.getElem?_eq_some_iff.1 hs).1
  rw [List.getLast?_eq_getElem?, List.length_take, Nat.min_eq_left (by omega), List.getElem?_take] at ht
  split at ht
  · rename_i hlt
    have h1 := List.pairwise_iff_getElem.1 hup (i - 1) i (by rw [List.length_map]; omega) (by rw [List.length_map]; omega) hlt
    rw [List.getElem_map, List.getElem_map] at h1
    rw [List.getElem?_eq_getElem (by omega)] at ht
    rw [List.getElem?_eq_getElem hi] at hs
    rw [← Option.some.inj ht, ← Option.some.inj hs]
    exact h1
  · cases ht
set_option maxRecDepth 100000 in
set_option maxHeartbeats 4000000 in
theorem back_some {K : List Nat} {B0 B : Nat} {w : World} {ad : Nat → Addr} (hK : KJ K) (hs : Sents K B0 w ad) {g : Nat} {sts : List St} {most size : Int} {S : List Nat} (h : JR B w g sts most size S) (hB : B ≤ w.heap.size) (hn : sts.length ≤ 100000) (hu : ∀ s ∈ sts, s.us.length ≤ 65536) (hr : Rising sts)
    (hz : 0 ≤ size ∧ size ≤ 65536) (hzl : (entries sts).length = size) {f : Int} {i : Nat} (hi : placeOf (sts.map (·.fr)) f = some i) :
    Calls Tryd.prog 12 #[ptr g, .int .i64 f] w fun e w' => ∃ v, e = .returned (.tuple #[v, .nilIface]) ∧ OutV w.heap.size w' v (sinceU (sts.drop i)) ∧ ∃ S', JR B w' g (sts.take i ++ [⟨f, []⟩]) most (size - (entries (sts.drop i)).length) S' ∧ Stp S S' w w' := by
  have hSi := since_calls hK hs h hn hu f
  unfold SincePost at hSi
  rw [hi] at hSi
  have HSi := hide hSi
  have HPl := hide (fun W (hf : Fr [] w W) => place_calls hK (hs.fr0 hf) (h.fr0 hf) hn f)
  unfold PlacePost at HPl
  rw [hi] at HPl
  have HM := hide (mark_ok_take hr hi)
  have hil : i < sts.length := by
    obtain ⟨s, hs', _⟩ := place_spec hi
    exact (List.getElem?_eq_some_iff.1 hs').1
  have hsum : ((entries (sts.drop i)).length : Int) ≤ size := by
    rw [← hzl]
    have h1 : (entries sts).length = (entries (sts.take i)).length + (entries (sts.drop i)).length := by
      rw [← List.length_append]
      unfold entries
      rw [← List.flatMap_append, List.take_append_drop]
    omega
  have hul : (sinceU (sts.drop i)).length = (entries (sts.drop i)).length := by simp [sinceU, entries]
  have HH := hide (And.intro h (And.intro hs hul))
  clear hSi hs h hu hr hi hzl hul
  generalize (entries (sts.drop i)).length = en at *
  obtain ⟨hz0, hz1⟩ := hz
  have n2 : ∀ (W : World), (binOp .neq 26 .nilIface .nilIface).run Tryd.prog W = .ok (.bool false) W := fun W => by kernel_rfl
  go_enter Tryd.func12, Tryd.ntmps12
  go_wp2_with fail
  refine HSi.out.mono ?_
  rintro e w1 ⟨v, rfl, hv, hf1⟩
  obtain ⟨Av, cv, rfl⟩ := hv.form
  have H1 := hide (And.intro hv hf1)
  rw [HH.out.2.2]
  clear hv hf1
  go_wp2_with fail
  refine (HPl.out _ H1.out.2).mono ?_
  rintro e w2 ⟨rfl, hf2⟩
  have H2 := hide (And.intro (H1.out.2.trans hf2) hf2)
  obtain ⟨gg, o, c, hgb, hc1, hc2, S1, hJ1, hS1⟩ := (HH.out.1.fr0 H2.out.1).cut hil
  have g0 := hgb.at_ 0 (v := .slice (some ⟨gg, o, none⟩) sts.length c) rfl
  have g2 := hgb.at_ 2 (v := .int .i64 size) rfl
  have gz := hgb.frozen
  have gz0 := gz 0
  have gz2 := gz 2
  have lg := hgb.lt
  have i0 : (0 : Int) ≤ (i : Int) := by omega
  have i1 : (i : Int) ≤ (c : Int) := by omega
  have en0 : (0 : Int) ≤ (en : Int) := by omega
  have hJ2 := hJ1.setSize (size - en)
  have hfw : Fr [g] w2 ((w2.setCell ⟨g, 0, none⟩ (.slice (some ⟨gg, o, none⟩) i c)).setCell ⟨g, 2, none⟩ (.int .i64 (size - en))) := ((Fr.refl _ _).setCell (.inl (by simp)) _).setCell (.inl (by simp)) _
  have HJ2 := hide (And.intro hJ2 (And.intro hfw hS1))
  have hMk := mark_calls hJ2 (by have := hfw.size; have := H2.out.1.size; omega) (by rw [List.length_take]; omega) HM.out
  have HMk := hide hMk
  clear hgb gz hJ1 hS1 hc2 hf2 hJ2 hfw hMk
  go_wp2_with fail
  refine HMk.out.mono ?_
  rintro e w3 ⟨rfl, S3, hJ3, hst3⟩
  have H3 := hide (And.intro hJ3 hst3)
  clear hJ3 hst3
  go_wp2_with fail
  go_ret2
  obtain ⟨hJ2, hfw, hS1⟩ := HJ2.out
  have hSlt : ∀ b ∈ S, b < w.heap.size := fun b hb => (HH.out.1.ge b hb).2
  have hfS : Fr S w2 w3 := (hfw.mono (T := S) (fun b hb => by rw [List.mem_singleton] at hb; subst hb; exact HH.out.1.mem)).trans (H3.out.2.1.mono hS1)
  have hsz2 : ((w2.setCell ⟨g, 0, none⟩ (.slice (some ⟨gg, o, none⟩) i c)).setCell ⟨g, 2, none⟩ (.int .i64 (size - en))).heap.size = w2.heap.size := by simp [World.setCell]
  have hvv := (H1.out.1.keep H2.out.2 (by simp)).keep hfS hSlt
  rw [HH.out.2.2] at hvv
  refine ⟨_, rfl, hvv, S3, H3.out.1, (H2.out.1.any _).trans hfS, fun b hb => (H3.out.2.2 b hb).imp (hS1 b) (fun e => by rw [hsz2] at e; have := H2.out.1.size; omega)⟩
end Go.Proofs.YtioeafjlbdpjoaaDoor

/- Journal: Marks, Forget. -/
import Derived.Test.YtioeafjlbdpjoaaDoorBackF
import Derived.Test.YtioeafjlbdpjoaaDoorSame
namespace Go.Proofs.YtioeafjlbdpjoaaDoor
open Go.RowKit
/-- the first stretch -/
theorem JR.head {B : Nat} {w : World} {g : Nat} {s : St} {sts : List St} {most size : Int} {S : List Nat} (h : JR B w g (s :: sts) most size S) :
    ∃ gg o c p A cu mv, Blk w g 67 #[.slice (some ⟨gg, o, none⟩) (sts.length + 1) c, .int .i64 most, .int .i64 size] ∧ sts.length + 1 ≤ c ∧ c ≤ maxLen ∧ w.cell? ⟨gg, o, none⟩ = some (ptr p) ∧ Blk w p 72 #[.int .i64 s.fr, .slice A s.us.length cu, mv] ∧
      (∃ S', JR B (w.setCell ⟨g, 0, none⟩ (.slice (some ⟨gg, o + 1, none⟩) sts.length (c - 1))) g sts most size S' ∧ ∀ b ∈ S', b ∈ S) := by
  obtain ⟨gg, o, c, hb, hc1, hc2, ht⟩ := h.tail (by simp)
  obtain ⟨sl, rs, Q, h1, h2, h3, h4, h5, h6, h7, rfl⟩ := h
  obtain ⟨x, rs', rfl⟩ : ∃ x rs', rs = x :: rs' := by
    cases rs with
    | nil => simp at h1
    | cons a r => exact ⟨a, r, rfl⟩
  rw [List.map_cons] at h1
  injection h1 with h1 h1'
  obtain rfl : sl = .slice (some ⟨gg, o, none⟩) (s :: sts).length c := by
    have := hb.unique h2
    injection this with this
    exact (List.cons.inj this).1.symm
  obtain ⟨uv, m, ds, q1, q2, q3, q4, q5, q6, q7, q8⟩ := h4 x (by simp)
  rw [h1] at q1 q2
  obtain ⟨A, cu, rfl, _⟩ := row_reads q2
  have hl : (x :: rs').length = (s :: sts).length := by rw [← h1', List.length_cons, List.length_cons, List.length_map]
  rw [hl] at h3
  refine ⟨gg, o, c, x.1, A, cu, _, h2, by simpa using hc1, hc2, by simpa using h3.cell (i := 0) (u := ptr x.1) rfl, q1, ?_⟩
  have := ht 1 (by simp)
  simpa using this
theorem JR.slice {B : Nat} {w : World} {g : Nat} {sts : List St} {most size : Int} {S : List Nat} (h : JR B w g sts most size S) : ∃ A c, Blk w g 67 #[.slice A sts.length c, .int .i64 most, .int .i64 size] ∧ ∀ i s, sts[i]? = some s → ∃ b o p uv mv, A = some ⟨b, o, none⟩ ∧ w.cell? ⟨b, o + i, none⟩ = some (ptr p) ∧ Blk w p 72 #[.int .i64 s.fr, uv, mv] := by
  obtain ⟨sl, rs, Q, rfl, h2, h3, h4, h5, h6, h7, rfl⟩ := h
  rw [List.length_map]
  rcases h3.form with ⟨rfl, h0, hx⟩ | ⟨gg, o, c, rfl, _, _, h8, h9⟩
  · refine ⟨none, 0, by rw [h0]; exact h2, fun i s hs => ?_⟩
    have hr0 : rs = [] := List.eq_nil_of_length_eq_zero h0
    subst hr0
    simp at hs
  · refine ⟨_, c, h2, fun i s hs => ?_⟩
    rw [List.getElem?_map] at hs
    obtain ⟨x, hx, rfl⟩ := Option.map_eq_some_iff.1 hs
    obtain ⟨uv, mv, hb⟩ := (h4 x (List.mem_of_getElem? hx)).frame
    exact ⟨gg, o, x.1, uv, mv, rfl, h3.cell (by rw [List.getElem?_map, hx]; rfl), hb⟩
theorem infoIntJ : (Tryd.prog.info? 3).map (fun i => (i.zero, i.size, i.bytes)) = some (some (.int .i64 0), 1, 8) := by kernel_rfl
theorem marks_nil (w : World) : Calls Tryd.prog 15 #[.pointer none] w fun e w' => e = .returned (.slice none 0 0) ∧ w = w' := by
  go_enter Tryd.func15, Tryd.ntmps15
  go_wp2_with fail
  go_ret
  exact ⟨rfl, rfl⟩
set_option maxRecDepth 100000 in
set_option maxHeartbeats 2000000 in
theorem marks_calls {B : Nat} {w : World} {g : Nat} {sts : List St} {most size : Int} {S : List Nat} (h : JR B w g sts most size S) (hn : sts.length ≤ 100000) :
    Calls Tryd.prog 15 #[ptr g] w fun e w' => ∃ v, e = .returned v ∧ w'.ownsRow w.heap.size 3 1 v sts.length (ints (sts.map (·.fr))) ∧ Fr [] w w' := by
  obtain ⟨A, c, hg, hall⟩ := h.slice
  obtain ⟨i0, hi0, hz0, hs0, hb0⟩ := info_parts infoIntJ
  have c0 := hg.at_ 0 (v := .slice A sts.length c) rfl
  have lg := hg.lt
  have HH := hide (And.intro hg hall)
  clear h hg hall
  go_enter Tryd.func15, Tryd.ntmps15
  go_wp2_with fail
  go_loopw [2, 12] (fun s2 s12 wr => ∃ i : Nat, i ≤ sts.length ∧ s12 = .int .i64 i ∧ wr.ownsRow w.heap.size 3 1 s2 i (ints ((sts.take i).map (·.fr))) ∧ Fr [] w wr) (fun _ s12 _ => sts.length - (intOf s12).toNat)
  case atStart => exact ⟨0, by omega, rfl, World.ownsRow_nil _ _ _ _, Fr.refl _ _⟩
  case round =>
    obtain ⟨i, hi, rfl, hr, hf⟩ := hrel
    have j0 : (0 : Int) ≤ (i : Int) := by omega
    have Hr := hide (And.intro hr hf)
    by_cases hin : i < sts.length
    · have j1 : (i : Int) < (sts.length : Int) := by omega
      obtain ⟨s, hs⟩ : ∃ s, sts[i]? = some s := ⟨_, List.getElem?_eq_getElem hin⟩
      obtain ⟨b, o, p, uv, mv, rfl, hc, hp⟩ := HH.out.2 i s hs
      have lb := World.block_lt_of_cell? w _ hc
      have hc' := (hf.cell (p := ⟨b, o + i, none⟩) lb (by simp)).trans hc
      have hp' := (hp.fr0 hf).at_ 0 (v := .int .i64 s.fr) rfl
      have lp := (hp.fr0 hf).lt
      have htk : ints ((sts.take (i + 1)).map (·.fr)) = ints ((sts.take i).map (·.fr)) ++ [.int .i64 s.fr] := by
        rw [List.take_add_one, hs]; simp [ints]
      have Ht := hide htk
      have hB := hf.size
      clear hr hf hs hc hp htk
      generalize s.fr = fr at *
      go_wp2_with (at_builtin; refine wpList_append_lies _ rfl _ _ _ rfl w.heap.size 3 i0 _ 1 8 Tryd.underlying22 hi0 hz0 hs0 hb0 rfl (by omega) (u2) (i) ((ints ((sts.take i).map (·.fr)))) rfl ((Hr.out.1.alloc _)) ⟨wr.heap.size, 0, none⟩ 1 1 [(.int .i64 fr)] rfl rfl (World.news_of_block (cs := #[(.int .i64 fr)]) (t := 3) (fr := (0, 0)) (Blk.new_at _ _ _ _ (by simp))) (by simp [Value.oneCell']) (by omega) (by unfold maxLen; omega) (by omega) (by simp; omega) (wr.heap.size + 1) (by simp) ?_; intro ag0 ac0 aw0 aown0 agrow0 aat0 alt0)
      go_roundw
      case rel =>
        refine ⟨i + 1, by omega, by go_num, by rw [Ht.out]; exact aown0, (Hr.out.2.alloc _).step (T := u2.ownBlock.toList) ((Fr.refl _ _).grown agrow0 fun k hk => .inl (by simp [hk])) (fun x hx => .inr (row_lt Hr.out.1 (by simpa using hx)).2)⟩
      case measure => simp [intOf]; omega
    · obtain rfl : i = sts.length := by omega
      rw [List.take_of_length_le (Nat.le_refl _)] at Hr
      clear hr hf
      go_wp2_with fail
      go_ret
      exact ⟨_, rfl, Hr.out.1, Hr.out.2⟩
/-! Forget -/
/-- how many marks are forgotten -/
def fgN : List St → Int → Nat
  | s :: t :: r, f => if s.fr < f then fgN (t :: r) f + 1 else 0
  | _, _ => 0
theorem fgN_le (sts : List St) (f : Int) : fgN sts f ≤ sts.length := by
  induction sts with
  | nil => simp [fgN]
  | cons s r ih =>
    cases r with
    | nil => simp [fgN]
    | cons t r => unfold fgN; split <;> simp at ih ⊢; omega
theorem forget_nil (w : World) (f : Int) : Calls Tryd.prog 16 #[.pointer none, .int .i64 f] w fun e w' => e = .returned (.int .i64 0) ∧ w = w' := by
  go_enter Tryd.func16, Tryd.ntmps16
  go_wp2_with fail
  go_loopw [4] (fun s4 wr => s4 = .int .i64 0 ∧ w = wr) (fun _ _ => 0)
  case atStart => exact ⟨rfl, rfl⟩
  case round =>
    obtain ⟨rfl, rfl⟩ := hrel
    go_wp2_with fail
    go_ret
    exact ⟨rfl, rfl⟩
set_option maxRecDepth 100000 in
set_option maxHeartbeats 4000000 in
theorem forget_calls {B : Nat} {w : World} {g : Nat} {sts : List St} {most size : Int} {S : List Nat} (h : JR B w g sts most size S) (hn : sts.length ≤ 100000) (hz : 0 ≤ size ∧ size ≤ 65536) (hzl : (entries sts).length = size) (f : Int) :
    Calls Tryd.prog 16 #[ptr g, .int .i64 f] w fun e w' => e = .returned (.int .i64 (entries (sts.take (fgN sts f))).length) ∧ ∃ S', JR B w' g (sts.drop (fgN sts f)) most (size - (entries (sts.take (fgN sts f))).length) S' ∧ Stp S S' w w' := by
  have HH := hide h
  have hsum : ∀ m, ((entries (sts.take m)).length : Int) ≤ size := fun m => by
    rw [← hzl]
    have h1 : (entries sts).length = (entries (sts.take m)).length + (entries (sts.drop m)).length := by
      rw [← List.length_append]
      unfold entries
      rw [← List.flatMap_append, List.take_append_drop]
    omega
  have HS := hide hsum
  clear h hsum hzl
  obtain ⟨hz0, hz1⟩ := hz
  go_enter Tryd.func16, Tryd.ntmps16
  go_wp2_with fail
  go_loopg [4] (sts.length) (fun gk s4 wr => ∃ m : Nat, m + gk = sts.length ∧ s4 = .int .i64 (entries (sts.take m)).length ∧ m + fgN (sts.drop m) f = fgN sts f ∧ ∃ S', JR B wr g (sts.drop m) most size S' ∧ Stp S S' w wr)
  case atStart => exact ⟨0, by omega, rfl, by simp, S, HH.out, Fr.refl _ _, fun b hb => .inl hb⟩
  case round =>
    obtain ⟨m, hm, rfl, hfg, S', hJ, hst⟩ := hrel
    have hdl : (sts.drop m).length = sts.length - m := List.length_drop
    have HD := hide (And.intro hfg (And.intro hJ hst))
    have hcase : (∃ s t r, sts.drop m = s :: t :: r ∧ s.fr < f) ∨ ((∃ s t r, sts.drop m = s :: t :: r ∧ ¬ s.fr < f) ∨ (sts.drop m).length ≤ 1) := by
      rcases hd : sts.drop m with _ | ⟨s, _ | ⟨t, r⟩⟩
      · exact .inr (.inr (by simp))
      · exact .inr (.inr (by simp))
      · by_cases hlt : s.fr < f
        · exact .inl ⟨s, t, r, rfl, hlt⟩
        · exact .inr (.inl ⟨s, t, r, rfl, hlt⟩)
    clear hfg hJ hst
    rcases hcase with ⟨s, t, r, hd, hlt⟩ | hexit
    · rw [hd] at HD hdl
      obtain ⟨gg, o, c, p, A, cu, mv, hg, hc1, hc2, hcell, hp, S2, hJ2, hS2⟩ := HD.out.2.1.head
      have g0 := hg.at_ 0 (v := .slice (some ⟨gg, o, none⟩) ((t :: r).length + 1) c) rfl
      have gz0 := hg.frozen 0
      have lg := hg.lt
      have lc := World.block_lt_of_cell? wr _ hcell
      have p0 := hp.at_ 0 (v := .int .i64 s.fr) rfl
      have p1 := hp.at_ 1 (v := .slice A s.us.length cu) rfl
      have lp := hp.lt
      have hlt' : decide (s.fr < f) = true := decide_eq_true hlt
      have hsm := HS.out (m + 1)
      have hsm0 := HS.out m
      have e1 : (entries (sts.take (m + 1))).length = (entries (sts.take m)).length + s.us.length := by
        have hg1 : sts[m]? = some s := by
          have := congrArg (fun l => l[0]?) hd
          simpa using this
        rw [List.take_add_one, hg1]
        unfold entries
        rw [List.flatMap_append, List.length_append]
        simp
      have hdr : sts.drop (m + 1) = t :: r := by rw [← List.drop_drop, hd]; rfl
      have hn2 : (1 : Int) < (((t :: r).length + 1 : Nat) : Int) := by simp; omega
      have hn1 : decide ((1 : Int) < (((t :: r).length + 1 : Nat) : Int)) = true := decide_eq_true hn2
      have hn0 : 0 < (t :: r).length + 1 := by omega
      have hic : ((1 : Nat) : Int) ≤ (c : Int) := by omega
      have hic2 : (1 : Int) ≤ (c : Int) := by omega
      have hc3 : 1 < c := by simp at hc1; omega
      have hmk := hdl
      simp only [List.length_cons] at hmk
      have H2 := hide (And.intro hJ2 (And.intro hS2 (And.intro e1 (And.intro hdr (And.intro hlt hd)))))
      rw [e1] at hsm
      clear hg hp hJ2 hS2 e1 hdr hlt hdl hd hc2
      generalize (t :: r).length = q at *
      generalize s.us.length = ul at *
      generalize (entries (sts.take m)).length = en at *
      go_wp2_with fail
      go_roundg (gk - 1)
      case measure => omega
      case rel =>
        obtain ⟨hJ2, hS2, e1, hdr, hlt, hd⟩ := H2.out
        refine ⟨m + 1, by omega, by rw [e1]; go_num, ?_, S2, ?_, ?_, ?_⟩
        · rw [hdr, ← HD.out.1]
          conv => rhs; unfold fgN
          rw [if_pos hlt]
          omega
        · rw [hdr]; exact hJ2
        · exact HD.out.2.2.1.setCell (HD.out.2.2.2 g HD.out.2.1.mem) _
        · intro b hb
          exact HD.out.2.2.2 b (hS2 b hb)
    · have hmf : m = fgN sts f := by
        have h0 : fgN (sts.drop m) f = 0 := by
          rcases hexit with ⟨s, t, r, hd, hlt⟩ | hle
          · rw [hd]; unfold fgN; rw [if_neg hlt]
          · rcases hd : sts.drop m with _ | ⟨s, _ | ⟨t, r⟩⟩
            · rfl
            · rfl
            · rw [hd] at hle; simp at hle
        have := HD.out.1
        omega
      have HF := hide hmf
      have hsm0 := HS.out m
      obtain ⟨A2, c2, hgb, hcells⟩ := HD.out.2.1.slice
      have g0 := hgb.at_ 0 (v := .slice A2 (sts.drop m).length c2) rfl
      have g2 := hgb.at_ 2 (v := .int .i64 size) rfl
      have gz2 := hgb.frozen 2
      have lg := hgb.lt
      have hW : ∀ n : Int, Fr S w (wr.setCell ⟨g, 2, none⟩ (.int .i64 n)) := fun n => HD.out.2.2.1.setCell (HD.out.2.2.2 g HD.out.2.1.mem) _
      have HW := hide hW
      clear hmf hW
      by_cases he0 : (entries (sts.take m)).length = 0
      · have HE := hide he0
        rw [he0]
        clear he0 hsm0
        rcases hexit with ⟨s, t, r, hd, hlt⟩ | hle
        · obtain ⟨b, o, p, uv, mv, rfl, hc, hp⟩ := hcells 0 s (by rw [hd]; rfl)
          have lb := World.block_lt_of_cell? wr _ hc
          have p0 := hp.at_ 0 (v := .int .i64 s.fr) rfl
          have lp := hp.lt
          rw [Nat.add_zero] at hc
          have hlt' : decide (s.fr < f) = false := decide_eq_false hlt
          have hn2 : (1 : Int) < (((sts.drop m).length : Nat) : Int) := by rw [hd]; simp; omega
          have hn1 : decide ((1 : Int) < (((sts.drop m).length : Nat) : Int)) = true := decide_eq_true hn2
          have hn0 : 0 < (sts.drop m).length := by rw [hd]; simp
          clear hd hlt hcells hgb hp hdl
          generalize (sts.drop m).length = q at *
          go_wp2_with fail
          go_ret
          refine ⟨by rw [← HF.out, HE.out]; rfl, S', ?_, HD.out.2.2⟩
          rw [← HF.out, HE.out]
          simpa using HD.out.2.1
        · have hn1 : decide ((1 : Int) < (((sts.drop m).length : Nat) : Int)) = false := decide_eq_false (by omega)
          clear hcells hgb hdl hle
          generalize (sts.drop m).length = q at *
          go_wp2_with fail
          go_ret
          refine ⟨by rw [← HF.out, HE.out]; rfl, S', ?_, HD.out.2.2⟩
          rw [← HF.out, HE.out]
          simpa using HD.out.2.1
      · have hpos : (0 : Int) < ((entries (sts.take m)).length : Int) := by omega
        have hJs := HD.out.2.1.setSize (size - (entries (sts.take m)).length)
        have HJ := hide hJs
        clear he0 hJs
        rcases hexit with ⟨s, t, r, hd, hlt⟩ | hle
        · obtain ⟨b, o, p, uv, mv, rfl, hc, hp⟩ := hcells 0 s (by rw [hd]; rfl)
          have lb := World.block_lt_of_cell? wr _ hc
          have p0 := hp.at_ 0 (v := .int .i64 s.fr) rfl
          have lp := hp.lt
          rw [Nat.add_zero] at hc
          have hlt' : decide (s.fr < f) = false := decide_eq_false hlt
          have hn2 : (1 : Int) < (((sts.drop m).length : Nat) : Int) := by rw [hd]; simp; omega
          have hn1 : decide ((1 : Int) < (((sts.drop m).length : Nat) : Int)) = true := decide_eq_true hn2
          have hn0 : 0 < (sts.drop m).length := by rw [hd]; simp
          clear hd hlt hcells hgb hp hdl
          generalize (sts.drop m).length = q at *
          generalize hen : (entries (sts.take m)).length = en at *
          have HE := hide hen
          clear hen
          go_wp2_with fail
          go_ret
          rw [← HF.out, HE.out]
          exact ⟨rfl, S', HJ.out, HW.out _, HD.out.2.2.2⟩
        · have hn1 : decide ((1 : Int) < (((sts.drop m).length : Nat) : Int)) = false := decide_eq_false (by omega)
          clear hcells hgb hdl hle
          generalize (sts.drop m).length = q at *
          generalize hen : (entries (sts.take m)).length = en at *
          have HE := hide hen
          clear hen
          go_wp2_with fail
          go_ret
          rw [← HF.out, HE.out]
          exact ⟨rfl, S', HJ.out, HW.out _, HD.out.2.2.2⟩
end Go.Proofs.YtioeafjlbdpjoaaDoor

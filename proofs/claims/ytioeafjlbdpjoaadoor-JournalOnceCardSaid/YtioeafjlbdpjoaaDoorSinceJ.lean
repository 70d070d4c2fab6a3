/- Journal: Since. -/
import Derived.Test.YtioeafjlbdpjoaaDoorPlace
import Derived.Test.YtioeafjlbdpjoaaDoorBackJ
namespace Go.Proofs.YtioeafjlbdpjoaaDoor
open Go.RowKit Go.Shelf
attribute [local go_sem] Oper.semAt_some
theorem infoUndo2 : (Tryd.prog.info? 37).map (fun i => (i.zero, i.size, i.bytes)) = some (some (.agg #[.int .i64 0, .int .i64 0, .int .i64 0, .int .i64 0, .int .i64 0, .int .i64 0, .int .i64 0, .int .i64 0, .slice none 0 0, .int .i64 0, .int .i64 0]), 11, 104) := by kernel_rfl
/-- the row of entries in the box E -/
def OutR (B : Nat) (W : World) (E : Nat) (us : List Un) : Prop :=
  ∃ (ov : Value) (ds : List Ud) (Q : List Nat), Boxed W E 38 ov ∧ W.ownsRow B 37 11 ov us.length (ds.flatMap Ud.cells) ∧ ds.map (·.u) = us ∧ (∀ d ∈ ds, PsOk (· ∈ Q) W d) ∧ ∀ b ∈ Q, B ≤ b ∧ ∃ cs, Blk W b 34 cs
/-- a row of entries, as a value -/
def OutV (B : Nat) (W : World) (v : Value) (us : List Un) : Prop := ∃ ds : List Ud, W.ownsRow B 37 11 v us.length (ds.flatMap Ud.cells) ∧ ds.map (·.u) = us ∧ ∀ d ∈ ds, PsOk (fun b => B ≤ b ∧ v.ownBlock ≠ some b) W d
def sinceU (l : List St) : List Un := (l.flatMap (·.us)).reverse
/-- what Since gives -/
def SincePost (w : World) (ad : Nat → Addr) (sts : List St) (f : Int) (e : Ending) (w' : World) : Prop := match placeOf (sts.map (·.fr)) f with
  | some i => ∃ v, e = .returned (.tuple #[v, .nilIface]) ∧ OutV w.heap.size w' v (sinceU (sts.drop i)) ∧ Fr [] w w'
  | none => ∃ v, e = .returned (.tuple #[.slice none 0 0, v]) ∧ NewErr w w' ad v 16 ∧ Fr [] w w'
theorem PsOk.kept {good : Nat → Prop} {A B : World} {row : Option Nat} {d : Ud} (h : PsOk good A d) (hg : A.grownBy B row) (hr : ∀ r, row = some r → ∃ o : Obj, A.heap[r]? = some o ∧ o.isCells = false) : PsOk good B d :=
  ⟨h.le, h.nil, fun hn => by
    obtain ⟨b, off, hA, hb, hgd, hc⟩ := h.at_ hn
    refine ⟨b, off, hA, Nat.lt_of_lt_of_le hb hg.size, hgd, fun j v hv => hg.cell (hc j v hv) (fun e => ?_)⟩
    obtain ⟨o, ho, hoc⟩ := hr b e.symm
    obtain ⟨o', ho', hoc'⟩ := cells_of_cell (hc j v hv)
    rw [ho] at ho'
    cases ho'
    rw [hoc] at hoc'
    cases hoc'⟩
theorem row_kept {A W : World} {row : Option Nat} {B : Nat} {t : TypeId} {size n : Nat} {v : Value} {xs : List Value} (h : A.ownsRow B t size v n xs) (hg : A.grownBy W row) (hr : ∀ r, row = some r → ∃ o : Obj, A.heap[r]? = some o ∧ o.isCells = false) : W.ownsRow B t size v n xs := by
  refine row_fr h (S := row.toList) (Fr.of_grown hg fun k hk => .inl (by simp [hk])) (fun k hk hm => ?_)
  have e : row = some k := by simpa using hm
  obtain ⟨o, ho, hoc⟩ := hr k e
  rcases row_form h with ⟨rfl, _⟩ | ⟨g, cap, rfl, _⟩
  · simp [Value.ownBlock] at hk
  · obtain ⟨cur, hc, _⟩ := row_blk h
    have : g = k := by simpa [Value.ownBlock] using hk
    subst this
    unfold Blk at hc
    rw [hc] at ho
    cases ho
    cases hoc
theorem blk_kept {A B : World} {row : Option Nat} {g : Nat} {t : TypeId} {cs : Array Value} (h : Blk A g t cs) (hg : A.grownBy B row) (hr : ∀ r, row = some r → ∃ o : Obj, A.heap[r]? = some o ∧ o.isCells = false) : Blk B g t cs := by
  refine h.grown hg fun e => ?_
  obtain ⟨o, ho, hc⟩ := hr g e.symm
  unfold Blk at h
  rw [h] at ho
  cases ho
  cases hc
theorem OutR.own (B E : Nat) : Own (fun us W => OutR B W E us) := by
  intro us A W row hs hg hr
  obtain ⟨ov, ds, Q, h1, h2, h3, h4, h5⟩ := hs
  refine ⟨ov, ds, Q, h1.kept hg (fun e => ?_), row_kept h2 hg hr, h3, fun d hd => (h4 d hd).kept hg hr, fun b hb => ⟨(h5 b hb).1, (h5 b hb).2.imp fun cs hc => blk_kept hc hg hr⟩⟩
  obtain ⟨o, ho, hoc⟩ := hr _ e.symm
  have h6 : A.heap[E]? = _ := h1
  rw [h6] at ho
  cases ho
  cases hoc
theorem wpListIn_append_lies {F : Fence} {n : Nat} {P : Program} (w : World) {ops : Array Oper} {rest : List Oper} {o : Oper} {a : Act} {Q : Exit → Act → World → Prop}
    (hg : o.guard = none) (s x : Operand) (t : TypeId) (hop : o.op = Op.call { callee := Callee.builtin Builtin.append, args := #[s, x], argTypes := #[t, t] })
    (base : Nat) (e : TypeId) (i : TypeInfo) (z : Value) (size bytes : Nat) (h1 : P.underlying t = some (.slice e)) (h2 : P.info? e = some i) (h3 : i.zero = some z) (h4 : i.size = size) (h5 : i.bytes = bytes) (h6 : z.cells.size = size) (h7 : 0 < size)
    (v : Value) (k : Nat) (xs : List Value) (hs : a.eval s = v) (hown : w.ownsRow base e size v k xs) (ad : Addr) (m c : Nat) (news : List Value) (hx : a.eval x = .slice (some ad) m c) (hn : news.length = m * size)
    (hc : ∀ j u, news[j]? = some u → w.cell? (ad.add j) = some u) (h1c : ∀ u ∈ news, u.oneCell' = true) (hm : 0 < m) (b1 : k + m ≤ maxLen) (b2 : (k + m) * bytes ≤ 140737488355328) (b3 : base ≤ w.heap.size) (H : Nat) (hH : w.heap.size = H)
    (hK : ∀ g cap w', w'.ownsRow base e size (.slice (some ⟨g, 0, none⟩) (k + m) cap) (k + m) (xs ++ news) → w.grownBy w' v.ownBlock → (v.ownBlock = some g ∨ g = H) → g < w'.heap.size → wpListIn F n P ops Q rest (a.put o.dst (.slice (some ⟨g, 0, none⟩) (k + m) cap)) w') :
    wpListIn F n P ops Q (o :: rest) a w := by
  obtain ⟨g, cap, w', hr, q2, q3, q4, q5⟩ := run_append_lies (P := P) w t o.type base e i z size bytes h1 h2 h3 h4 h5 h6 h7 v k xs hown ad m c news hn hc h1c hm b1 b2 b3 H hH
  refine wpListIn_plain hg fun K hK' => ?_
  unfold Oper.wpIn
  refine ⟨?_, ?_⟩
  · simp [Oper.about, hop, resolve, Target.leads, Sem.run_pure]
  · rw [Oper.semAt_plain F _ _ (by rw [hop]; intro c hc'; cases hc')]
    simp [execOp, hop, resolve, invoke, builtin, hs, hx, hr, Result.andThen]
    exact hK' _ _ (hK g cap w' q2 q3 q4 q5)
theorem out_final {B : Nat} {W : World} {E D : Nat} {us : List Un} {o o' : Obj} {ov : Value} (h : OutR B W E us) (hov : W.cell? ⟨E, 0, none⟩ = some ov) (hD : W.heap[D]? = some o) (ho : o.isCells = false) : OutV B (W.putObj D o') ov us := by
  obtain ⟨ov', ds, Q, h1, h2, h3, h4, h5⟩ := h
  obtain rfl : ov' = ov := Option.some.inj (h1.cell.symm.trans hov)
  have hr : ∀ r, some D = some r → ∃ o : Obj, W.heap[r]? = some o ∧ o.isCells = false := fun r e => by cases e; exact ⟨o, hD, ho⟩
  refine ⟨ds, row_kept h2 (grownBy_putObj' W D o') hr, h3, fun d hd => ((h4 d hd).kept (grownBy_putObj' W D o') hr).imp fun b hb _ => ?_⟩
  obtain ⟨r1, cs, hc⟩ := h5 b hb
  exact ⟨r1, row_blk_ne h2 hc (by decide)⟩
theorem fr_keeps {W W' : World} (hf : Fr [] W W') : KeepsOthers W W' := ⟨hf.size, fun k o hk _ => by
  rcases Nat.lt_or_ge k W.heap.size with h | h
  · exact (hf.block k h (by simp)).trans hk
  · rw [Array.getElem?_eq_none h] at hk; cases hk⟩
theorem own_cells {w : World} {B : Nat} {t : TypeId} {size n : Nat} {v : Value} {xs : List Value} (h : w.ownsRow B t size v n xs) (j : Nat) (o : Obj) (hj : v.ownBlock = some j) (ho : w.heap[j]? = some o) : o.isCells = true := by
  rcases row_form h with ⟨rfl, _⟩ | ⟨g, cap, rfl, _⟩
  · simp [Value.ownBlock] at hj
  · obtain ⟨cur, hc, _⟩ := row_blk h
    have : g = j := by simpa [Value.ownBlock] using hj
    subst this
    unfold Blk at hc
    rw [hc] at ho
    cases ho
    rfl
theorem ownFrom_KL {β : Type} {L : List Nat} {n : Nat} {W : World} (hL : ∀ k ∈ L, k < n ∧ k < W.heap.size) : OwnFrom n (fun (_ : β) W' => KL L W W') :=
  fun _ X Y row hs hg hr => ⟨Nat.le_trans hs.size hg.size, fun k hk => (hg.block k (by have := (hL k hk).2; have := hs.size; omega) (fun e => by have := (hr k e.symm).1; have := (hL k hk).1; omega)).trans (hs.blk k hk)⟩
/-- one entry more in the box -/
theorem out_step {B : Nat} {W X w6 : World} {E gg cap : Nat} {us : List Un} {d : Ud} {ov : Value} {ds : List Ud} {Q : List Nat} (h1 : Boxed W E 38 ov) (h2 : W.ownsRow B 37 11 ov us.length (ds.flatMap Ud.cells)) (h3 : ds.map (·.u) = us) (h4 : ∀ d ∈ ds, PsOk (· ∈ Q) W d) (h5 : ∀ b ∈ Q, B ≤ b ∧ ∃ cs, Blk W b 34 cs)
    (hX : Fr [] W X) (hB : B ≤ W.heap.size) {good : Nat → Prop} (hd : PsOk good X d) (hpb : ∀ b ∈ d.pb, B ≤ b ∧ ∃ cs, Blk X b 34 cs)
    (hown : w6.ownsRow B 37 11 (.slice (some ⟨gg, 0, none⟩) (us.length + 1) cap) (us.length + 1) (ds.flatMap Ud.cells ++ d.cells)) (hgrow : X.grownBy w6 ov.ownBlock) (hat : ov.ownBlock = some gg ∨ gg = X.heap.size) :
    OutR B (w6.setCell ⟨E, 0, none⟩ (.slice (some ⟨gg, 0, none⟩) (us.length + 1) cap)) E (us ++ [d.u]) ∧ Fr (E :: ov.ownBlock.toList) W (w6.setCell ⟨E, 0, none⟩ (.slice (some ⟨gg, 0, none⟩) (us.length + 1) cap)) := by
  have hb : Blk W E 38 #[ov] := h1
  have hne : ov.ownBlock ≠ some E := row_blk_ne h2 hb (by decide)
  have hE6 : Blk w6 E 38 #[ov] := (hb.fr0 hX).grown hgrow (fun e => hne e.symm)
  have hggE : gg ≠ E := by
    rintro rfl
    exact row_blk_ne hown hE6 (by decide) rfl
  have hf6 : Fr ov.ownBlock.toList W w6 := (hX.any _).grown hgrow fun k hk => .inl (by simp [hk])
  have hfin : Fr [E] w6 (w6.setCell ⟨E, 0, none⟩ (.slice (some ⟨gg, 0, none⟩) (us.length + 1) cap)) := (Fr.refl _ _).setCell (.inl (by simp)) _
  have hfX : Fr (E :: ov.ownBlock.toList) X (w6.setCell ⟨E, 0, none⟩ (.slice (some ⟨gg, 0, none⟩) (us.length + 1) cap)) := (((Fr.refl _ X).grown hgrow fun k hk => .inl (by simp [hk])).mono (T := E :: ov.ownBlock.toList) (fun x hx => List.mem_cons_of_mem _ hx)).trans (hfin.mono (by simp))
  have hall : Fr (E :: ov.ownBlock.toList) W (w6.setCell ⟨E, 0, none⟩ (.slice (some ⟨gg, 0, none⟩) (us.length + 1) cap)) := (hX.any _).trans hfX
  have hout : ∀ {b : Nat} {t : TypeId} {cs : Array Value}, Blk W b t cs → t ≠ 38 → t ≠ 37 → b ∉ E :: ov.ownBlock.toList := fun hc k1 k2 hm => by
    simp only [List.mem_cons, Option.mem_toList] at hm
    rcases hm with rfl | hm
    · exact hc.ne_ hb k1 rfl
    · exact row_blk_ne h2 hc (Ne.symm k2) hm
  have houtX : ∀ {b : Nat} {t : TypeId} {cs : Array Value}, Blk X b t cs → t ≠ 38 → t ≠ 37 → b ∉ E :: ov.ownBlock.toList := fun hc k1 k2 hm => by
    simp only [List.mem_cons, Option.mem_toList] at hm
    rcases hm with rfl | hm
    · exact hc.ne_ (hb.fr0 hX) k1 rfl
    · exact row_blk_ne (row_fr h2 hX (by simp)) hc (Ne.symm k2) hm
  refine ⟨⟨_, ds ++ [d], Q ++ d.pb, (show Blk _ E 38 #[.slice (some ⟨gg, 0, none⟩) (us.length + 1) cap] by simpa using hE6.set_ 0 (.slice (some ⟨gg, 0, none⟩) (us.length + 1) cap)), ?_, by simp [h3], ?_, ?_⟩, hall⟩
  · rw [List.flatMap_append, List.length_append]
    simpa using row_far hown (p := ⟨E, 0, none⟩) (by simpa [Value.ownBlock] using hggE) (.slice (some ⟨gg, 0, none⟩) (us.length + 1) cap)
  · intro d' hd'
    rcases List.mem_append.1 hd' with hd' | hd'
    · exact ((h4 d' hd').keep hall (fun b hm => by obtain ⟨cs, hc⟩ := (h5 b hm).2; exact hout hc (by decide) (by decide))).imp fun b hb _ => by simp [hb]
    · rw [List.mem_singleton] at hd'
      subst hd'
      exact (hd.own.keep hfX (fun b hm => by obtain ⟨cs, hc⟩ := (hpb b hm.1).2; exact houtX hc (by decide) (by decide))).imp fun b hb _ => by simp [hb.1]
  · intro b hb
    rcases List.mem_append.1 hb with hb | hb
    · obtain ⟨r1, cs, hc⟩ := h5 b hb
      exact ⟨r1, cs, hc.fr hall (hout hc (by decide) (by decide))⟩
    · obtain ⟨r1, cs, hc⟩ := hpb b hb
      exact ⟨r1, cs, hc.fr hfX (houtX hc (by decide) (by decide))⟩
/-- the entries of the stretches that have come -/
def outsO {rs : List Sr} (pre : List (Nat × { x : Sr // x ∈ rs })) : List Un := pre.flatMap fun x => x.2.1.2.1.us.reverse
def outsI {ds : List Ud} (pre : List (Nat × { d : Ud // d ∈ ds })) : List Un := pre.map fun x => x.2.1.u
theorem outsO_len {rs : List Sr} (hu : ∀ x ∈ rs, x.2.1.us.length ≤ 65536) (pre : List (Nat × { x : Sr // x ∈ rs })) : (outsO pre).length ≤ pre.length * 65536 := by
  induction pre with
  | nil => simp [outsO]
  | cons a pre ih =>
    have h1 := hu a.2.1 a.2.2
    unfold outsO at ih ⊢
    rw [List.flatMap_cons, List.length_append, List.length_reverse, List.length_cons, Nat.add_mul]
    omega
theorem outsO_all (rs : List Sr) : outsO (backs rs.attach rs.attach.length) = sinceU (rs.map (·.2.1)) := by
  have h := congrArg (List.flatMap fun x : { x : Sr // x ∈ rs } => x.1.2.1.us.reverse) (backs_all rs.attach)
  unfold outsO sinceU
  rw [List.flatMap_map] at h
  rw [h]
  have e : ∀ (l : List { x : Sr // x ∈ rs }), l.reverse.flatMap (fun x => x.1.2.1.us.reverse) = (l.flatMap fun x => x.1.2.1.us).reverse := by
    intro l
    induction l with
    | nil => rfl
    | cons a l ih => rw [List.reverse_cons, List.flatMap_append, ih]; simp
  rw [e, List.flatMap_map]
  congr 1
  have := List.attach_map_subtype_val rs
  conv => rhs; rw [← this]
  rw [List.flatMap_map]
theorem outsI_all (ds : List Ud) : outsI (backs ds.attach ds.attach.length) = (ds.map (·.u)).reverse := by
  have h := congrArg (List.map fun x : { x : Ud // x ∈ ds } => x.1.u) (backs_all ds.attach)
  unfold outsI
  rw [List.map_map] at h
  rw [show (fun x : Nat × { d : Ud // d ∈ ds } => x.2.1.u) = (fun x : { x : Ud // x ∈ ds } => x.1.u) ∘ (·.2) from rfl, h, List.map_reverse]
  congr 1
  have := List.attach_map_subtype_val ds
  conv => rhs; rw [← this]
  rw [List.map_map]
  rfl
set_option maxRecDepth 100000 in
set_option maxHeartbeats 8000000 in
theorem since_some {B : Nat} {w : World} {ad : Nat → Addr} {g : Nat} {sts : List St} {most size : Int} {S : List Nat} (h : JR B w g sts most size S) (hn : sts.length ≤ 100000) (hu : ∀ s ∈ sts, s.us.length ≤ 65536) {f : Int} {i : Nat} (hi : placeOf (sts.map (·.fr)) f = some i)
    (hP : Calls Tryd.prog 34 #[ptr g, .int .i64 f] w (PlacePost w ad (some i))) :
    Calls Tryd.prog 11 #[ptr g, .int .i64 f] w fun e w' => ∃ v, e = .returned (.tuple #[v, .nilIface]) ∧ OutV w.heap.size w' v (sinceU (sts.drop i)) ∧ Fr [] w w' := by
  obtain ⟨sl, rs, Q, rfl, h2, h3, h4, h5, h6, h7, rfl⟩ := h
  rw [List.length_map] at hn
  have hil : i < rs.length := by
    unfold placeOf at hi
    rw [List.findIdx?_eq_some_iff_getElem] at hi
    obtain ⟨hi, _⟩ := hi
    simpa using hi
  obtain ⟨i9, hi9, hz9, hs9, hb9⟩ := info_parts infoUndo2
  obtain ⟨gg, o, c, rfl, _, lgg, hnc, hcm⟩ : ∃ gg o c, sl = .slice (some ⟨gg, o, none⟩) rs.length c ∧ B ≤ gg ∧ gg < w.heap.size ∧ rs.length ≤ c ∧ c ≤ maxLen := by
    rcases h3.form with ⟨_, h0, _⟩ | h
    · omega
    · exact h
  have c0 := h2.at_ 0 (v := .slice (some ⟨gg, o, none⟩) rs.length c) rfl
  have lg := h2.lt
  have HH := hide (And.intro h3 (And.intro h4 hu))
  have HP := hide hP
  have i0 : (0 : Int) ≤ (i : Int) := by omega
  have i1 : (i : Int) ≤ (rs.length : Int) := by omega
  have i2 : (rs.length : Int) ≤ (c : Int) := by omega
  have i3 : i < c := by omega
  have Hcm := hide hcm
  have G2 := hide h2
  clear h2 h3 h4 h5 h6 h7 hu hP hi hcm
  refine (callsIn_wide (n := 8)).1 ?_
  refine callsIn_of_wp_marks (F := Fence.wide) Tryd.func11 rfl trivial ?_ rfl
  simp only [Tryd.ntmps11, List.size_toArray, List.length_cons, List.length_nil, Nat.reduceAdd, Nat.reduceSub, Array.replicate_succ, Array.replicate_zero, List.push_toArray, List.append_toArray, List.nil_append, List.cons_append]
  refine wpIn_wide.2 ?_
  go_wp2_with fail
  refine HP.out.mono ?_
  rintro e w1 ⟨rfl, hf1⟩
  have d0 := (hf1.cell (p := ⟨g, 0, none⟩) lg (by simp)).trans c0
  have lg1 := Nat.lt_of_lt_of_le lg hf1.size
  have H1 := hide hf1
  have n2 : ∀ (W : World), (binOp .neq 26 .nilIface .nilIface).run Tryd.prog W = .ok (.bool false) W := fun W => by kernel_rfl
  clear hf1 HP
  go_wp2_with fail
  refine (backS_calls _ _ _ _).mono ?_
  rintro e w2 ⟨rfl, hw2⟩
  have bO : Boxed w2 w1.heap.size 38 (.slice none 0 0) := by rw [← hw2]; exact (Boxed.new w1 38 (.slice none 0 0)).alloc _
  have bS : Boxed w2 (w1.heap.size + 1) 65 (.slice (some ⟨gg, o + i, none⟩) (rs.length - i) (c - i)) := by
    rw [← hw2]
    have := Boxed.new (w1.alloc (.cells #[.slice none 0 0] 38)) 65 (.slice (some ⟨gg, o + i, none⟩) (rs.length - i) (c - i))
    rwa [World.size_alloc] at this
  have hsz : w2.heap.size = w1.heap.size + 2 := by rw [← hw2]; simp
  have hF2 : Fr [] w w2 := by rw [← hw2]; exact (H1.out.alloc _).alloc _
  clear hw2
  simp only [World.size_alloc]
  go_wp2_with fail
  have hs1 := H1.out.size
  have hcell : ∀ (W : World), Below w.heap.size w W → ∀ (j : Nat) (v : { x : Sr // x ∈ rs.drop i }), (rs.drop i).attach[j]? = some v → W.cell? ⟨gg, o + i + j, none⟩ = some (ptr v.1.1) := by
    intro W hB j v hv
    have e : (rs.drop i)[j]? = some v.1 := by
      have := congrArg (fun l => l[j]?) (List.attach_map_subtype_val (rs.drop i))
      simp only [List.getElem?_map, hv, Option.map_some] at this
      exact this.symm
    rw [List.getElem?_drop] at e
    rw [Nat.add_assoc]
    refine (hB.cell (p := ⟨gg, o + (i + j), none⟩) lgg).trans ?_
    exact HH.out.1.cell (by rw [List.getElem?_map, e]; rfl)
  have hattl : (rs.drop i).attach.length = rs.length - i := by simp
  have HC := hide hcell
  clear hcell
  have hB2 : Below w.heap.size w w2 := hF2.below (by simp) (Nat.le_refl _)
  refine (wpIn_wide (n := 8)).1 ?_
  refine wpIn_rangeFunc_ownH (α := Nat × { x : Sr // x ∈ rs.drop i }) rfl (by omega) (gf := 49) (lb := #[.pointer (some ⟨w1.heap.size + 1, 0, none⟩)]) rfl trivial (enters_of Tryd.func49 (by kernel_rfl) rfl)
    (backS_stops Fence.wide (8 - 1) trivial rfl (by omega) (w1.heap.size + 1) (c - i) (some ⟨gg, o + i, none⟩) [w1.heap.size + 1, gg] (fun x => x.1.1) (rs.drop i).attach (by rw [hattl]; omega) (by simp) w2 (by simp; omega) (by rw [hattl]; exact bS.cell) (fun _ => ⟨gg, o + i, rfl, by simp, fun j v hv => HC.out w2 hB2 j v hv⟩))
    KL.trans (fun W l o o' hl ho _ _ => KL.putObj W l o o' hl (by simp; omega) ho) (Below.refl _ _) (fun _ => rfl)
    (fun pre W => (OutR w.heap.size W w1.heap.size (outsO pre) ∧ w2.heap.size ≤ W.heap.size) ∧ (Below w.heap.size w W ∧ KL [w1.heap.size + 1, gg] w2 W))
    (fun _ _ _ => False)
    (OwnFrom.and (Own.from (fun pre A B row hs hg hr => ⟨OutR.own _ _ _ A B row hs.1 hg hr, Nat.le_trans hs.2 hg.size⟩) _) (OwnFrom.and (ownFrom_below (Nat.le_refl _) (by omega)) (ownFrom_KL (by simp; omega))))
    (fun _ _ _ _ _ hs _ _ => hs)
    ⟨⟨⟨.slice none 0 0, [], [], bO, World.ownsRow_nil _ _ _ _, rfl, by simp, by simp⟩, Nat.le_refl _⟩, hB2, KL.refl _ _⟩
    (fun x a' _ => a' = { tmps := #[ptr g, .int .i64 f, undef, undef, .slice none 0 0, .nilIface, .int .i64 i, .nilIface, .pointer (some ⟨w1.heap.size, 0, none⟩), undef, ptr x.2.1.1, undef, undef, .tuple #[.int .i64 i, .nilIface], ptr g, .int .i64 f, .tuple #[.int .i64 i, .nilIface], .int .i64 i, .nilIface, .nilIface, .bool false, undef, ptr g, .pointer (some ⟨g, 0, none⟩), .pointer (some ⟨g, 0, none⟩), .slice (some ⟨gg, o, none⟩) rs.length c, .int .i64 i, .slice (some ⟨gg, o + i, none⟩) (rs.length - i) (c - i), .func (.func 49) #[] #[.pointer (some ⟨w1.heap.size + 1, 0, none⟩)], .int .i64 x.1, ptr x.2.1.1, undef, undef, undef, undef, undef, undef, undef, undef, undef, undef, undef, undef, undef, undef, undef, undef], defers := [] })
    (fun _ _ _ _ _ _ hs _ _ => hs)
    ?assign ?body ?done ?stop
  case assign =>
    intro l pre x W K hI hK
    simp only [encS]
    gi_wp2
    exact hK _ _ (KeepsFrom.refl _ _) (KL.refl _ _) hI rfl
  case body =>
    rintro l pre x a' W hl ⟨r, hr⟩ ⟨⟨hO, hsW⟩, hB, hKLo⟩ rfl hlt
    obtain ⟨xi, ⟨⟨p, st, T⟩, hxm⟩⟩ := x
    have hxr : (p, st, T) ∈ rs := List.mem_of_mem_drop hxm
    obtain ⟨uv, m, ds, q1, q2, q3, q4, q5, q6, q7, q8⟩ := HH.out.2.1 _ hxr
    dsimp only at q1 q2 q3 q4 q5 q6 q7 q8
    have husl := HH.out.2.2 st (List.mem_map.2 ⟨_, hxr, rfl⟩)
    obtain ⟨Au, cu, rfl, hrd⟩ := row_reads q2
    have hdl : ds.length = st.us.length := by rw [← q4, List.length_map]
    have p1 := (hB.cell (p := ⟨p, 1, none⟩) q1.lt).trans (q1.at_ 1 (v := .slice Au st.us.length cu) rfl)
    have lp := Nat.lt_of_lt_of_le q1.lt hB.size
    have hAu : ∀ k ∈ (Au.map (·.block)).toList, k < w.heap.size := by
      rcases row_form q2 with ⟨e, _⟩ | ⟨g9, c9, e, _, hl9, _⟩
      · injection e with e1 e2 e3; subst e1; simp
      · injection e with e1 e2 e3; subst e1; simpa using hl9
    have HD := hide (And.intro hrd (And.intro q5 (And.intro q4 (And.intro hO hr))))
    clear q1 q2 q3 q4 q5 q8 hrd hO hr
    gi_wp2
    refine ⟨trivial, ?_⟩
    refine (CallsIn.inRound l ((callsIn_wide (n := 5)).2 (backU_calls _ _ _ _))).mono ?_
    rintro e w3 ⟨rfl, hw3⟩
    have bU : Boxed w3 W.heap.size 38 (.slice Au st.us.length cu) := by rw [← hw3]; exact Boxed.new W 38 (.slice Au st.us.length cu)
    have hsz3 : w3.heap.size = W.heap.size + 1 := by rw [← hw3]; simp
    have hfW3 : Fr [] W w3 := by rw [← hw3]; exact (Fr.refl _ _).alloc _
    have hko3 : KeepsOthers W w3 := by rw [← hw3]; exact KeepsOthers.alloc _ _
    clear hw3
    gi_wp2
    have hr3 : w3.heap[l]? = some (.loop r) := (hfW3.block l (Array.getElem?_eq_some_iff.1 HD.out.2.2.2.2).1 (by simp)).trans HD.out.2.2.2.2
    have hB3 : Below w.heap.size w w3 := hB.trans (hfW3.below (by simp) hB.size)
    have hattd : ds.attach.length = st.us.length := by rw [List.length_attach, hdl]
    obtain ⟨ov, dsO, QO, hO1, hO2, hO3, hO4, hO5⟩ := HD.out.2.2.2.1
    have hO3' : OutR w.heap.size w3 w1.heap.size (outsO pre ++ outsI (ds := ds) []) := by
      rw [show outsI (ds := ds) [] = [] from rfl, List.append_nil]
      exact ⟨ov, dsO, QO, hO1.kept (World.grownBy.mk hfW3.os hfW3.tape hfW3.output hfW3.size (fun k hk _ => hfW3.block k hk (by simp))) (row := none) (by simp), row_fr hO2 hfW3 (by simp), hO3, fun d hd => (hO4 d hd).fr0 hfW3, fun b hb => ⟨(hO5 b hb).1, (hO5 b hb).2.imp fun cs hc => hc.fr0 hfW3⟩⟩
    have hsel : ds.attach ≠ [] → ∃ b off, Au = some ⟨b, off, none⟩ ∧ b < w.heap.size ∧ ∀ (j : Nat) v, (ds.attach.flatMap fun z => z.1.cells)[j]? = some v → w.cell? ⟨b, off + j, none⟩ = some v := by
      intro hne
      obtain ⟨b, off, hA, hb, hc⟩ := HD.out.1.2 (by rw [← hattd]; exact List.length_pos_iff.2 hne)
      refine ⟨b, off, hA, hb, fun j v hv => hc j v ?_⟩
      rw [← hv]
      congr 1
      have := List.attach_map_subtype_val ds
      conv => lhs; rw [← this]
      rw [List.flatMap_map]
    have hL3 : ∀ k ∈ W.heap.size :: (Au.map (·.block)).toList, k < w3.heap.size := fun k hk => by
      rcases List.mem_cons.1 hk with rfl | hk
      · omega
      · have := hAu k hk; have := hB.size; omega
    refine wpIn_rangeFunc_ownN (α := Nat × { x : Ud // x ∈ ds }) (l₀ := l) (r₀ := r) rfl hr3 (by omega) (gf := 50) (lb := #[.pointer (some ⟨W.heap.size, 0, none⟩)]) rfl trivial (enters_of Tryd.func50 (by kernel_rfl) rfl)
      ((backU_stops Fence.wide (6 - 1) trivial rfl (by omega) W.heap.size cu Au (W.heap.size :: (Au.map (·.block)).toList) (fun x => x.1) ds.attach (by rw [hattd]; omega) (by simp) w3 hL3 (by rw [hattd]; exact bU.cell) (fun hne => by
        obtain ⟨b, off, hA, hb, hc⟩ := hsel hne
        exact ⟨b, off, hA, by simp [hA], fun j v hv => (hB3.cell (p := ⟨b, off + j, none⟩) hb).trans (hc j v hv)⟩)).inRound l)
      KL.trans (fun W l o o' hl ho _ _ => KL.putObj W l o o' hl hL3 ho) (Below.refl _ _) (fun _ => rfl)
      (fun pre' W' => (OutR w.heap.size W' w1.heap.size (outsO pre ++ outsI pre') ∧ w3.heap.size ≤ W'.heap.size) ∧ ((Below w.heap.size w W' ∧ KeepsFrom w2.heap.size W W') ∧ (KL [w1.heap.size + 1, gg] W W' ∧ KL (W.heap.size :: (Au.map (·.block)).toList) w3 W')))
      (fun _ _ _ => False)
      (OwnFrom.and (Own.from (fun pre' A B row hs hg hr => ⟨OutR.own _ _ _ A B row hs.1 hg hr, Nat.le_trans hs.2 hg.size⟩) _) (OwnFrom.and (OwnFrom.and (ownFrom_below (Nat.le_refl _) (by omega)) (ownFrom_keepsFrom (by omega))) (OwnFrom.and (ownFrom_KL (by simp; omega)) (ownFrom_KL (fun k hk => ⟨hL3 k hk, hL3 k hk⟩)))))
      (fun _ _ _ _ _ hs _ _ => hs)
      ⟨⟨hO3', Nat.le_refl _⟩, ⟨hB3, hko3.from _⟩, KL.of_fr hfW3 (by simp; omega), KL.refl _ _⟩
      (fun y a'' W' => ∃ Bx, w3.heap.size ≤ Bx ∧ Blk W' Bx 37 y.2.1.box ∧ (∃ ov, Boxed W' w1.heap.size 38 ov ∧ ov.ownBlock ≠ some Bx) ∧ a'' = { tmps := #[ptr g, .int .i64 f, undef, undef, .slice none 0 0, .nilIface, .int .i64 i, .nilIface, .pointer (some ⟨w1.heap.size, 0, none⟩), undef, ptr p, undef, .pointer (some ⟨Bx, 0, none⟩), .tuple #[.int .i64 i, .nilIface], ptr g, .int .i64 f, .tuple #[.int .i64 i, .nilIface], .int .i64 i, .nilIface, .nilIface, .bool false, undef, ptr g, .pointer (some ⟨g, 0, none⟩), .pointer (some ⟨g, 0, none⟩), .slice (some ⟨gg, o, none⟩) rs.length c, .int .i64 i, .slice (some ⟨gg, o + i, none⟩) (rs.length - i) (c - i), .func (.func 49) #[] #[.pointer (some ⟨w1.heap.size + 1, 0, none⟩)], .int .i64 xi, ptr p, ptr p, .pointer (some ⟨p, 0, none⟩), .pointer (some ⟨p, 1, none⟩), .slice Au st.us.length cu, .func (.func 50) #[] #[.pointer (some ⟨W.heap.size, 0, none⟩)], .int .i64 y.1, y.2.1.val, undef, undef, undef, undef, undef, undef, undef, undef, undef], defers := [] })
      (fun y a'' _ X Y row hs hg hr => by
        obtain ⟨Bx, h1, h2, ⟨ov, h4, h5⟩, h3⟩ := hs
        refine ⟨Bx, h1, blk_kept h2 hg (fun r e => (hr r e).2), ⟨ov, blk_kept (t := 38) (cs := #[ov]) h4 hg (fun r e => (hr r e).2), h5⟩, h3⟩)
      ?assign2 ?body2 ?done2 ?stop2
    case assign2 =>
      intro l2 pre' y W' K ⟨⟨hO, hs⟩, ⟨hBW, hKF⟩, hKL, hKL2⟩ hK
      have hs' : w3.heap.size ≤ W'.heap.size := hs
      simp only [encE, Ud.val]
      gi_wp2
      exact hK _ _ ((KeepsOthers.alloc _ _).from _) (KL.of_fr (S := []) ((Fr.refl [] W').alloc _) (fun k hk => ⟨Nat.lt_of_lt_of_le (hL3 k hk) hs, by simp⟩))
        ⟨⟨(OutR.own _ _).alloc _ hO, by rw [World.size_alloc]; omega⟩, ⟨hBW.alloc hBW.size _, hKF.trans ((KeepsOthers.alloc _ _).from _)⟩, hKL.trans (KL.of_fr (S := []) ((Fr.refl [] W').alloc _) (by simp; omega)), hKL2.trans (KL.of_fr (S := []) ((Fr.refl [] W').alloc _) (fun k hk => ⟨Nat.lt_of_lt_of_le (hL3 k hk) hs, by simp⟩))⟩ ⟨W'.heap.size, hs, Blk.new _ _ _, (by
        obtain ⟨ov, dsO, QO, hO1, hO2, -⟩ := hO
        exact ⟨ov, Blk.alloc (t := 38) (cs := #[ov]) hO1 _, fun e => by have := (row_lt hO2 e).1; omega⟩), rfl⟩
    case body2 =>
      rintro l2 pre' y a'' W' hl2 - ⟨⟨hO, hs⟩, ⟨hBW, hKF⟩, hKL, hKL2⟩ ⟨Bx, hBx, hbx, ⟨ov', hov', hne'⟩, rfl⟩ hlt2
      obtain ⟨yi, ⟨d, hdm⟩⟩ := y
      obtain ⟨ov, dsO, QO, hO1, hO2, hO3, hO4, hO5⟩ := hO
      obtain rfl : ov' = ov := by
        have := Blk.unique (t := 38) (cs := #[ov']) (t' := 38) (cs' := #[ov]) hov' hO1
        simpa using this
      have Hne := hide hne'
      clear hov' hne'
      have hdok := (HD.out.2.1 d hdm).fr0 (Fr.of_below hBW [])
      have HCl := hide (clone_calls hdok)
      have a8 := hbx.at_ 8 (v := .slice d.A d.u.ps.length d.c) rfl
      have lbx := hbx.lt
      have HX := hide (And.intro hO1 (And.intro hO2 (And.intro hO3 (And.intro hO4 (And.intro hO5 (And.intro hbx (And.intro hBW (And.intro hKF (And.intro hKL hKL2)))))))))
      clear hO1 hO2 hO3 hO4 hO5 hbx hBW hKF hKL hKL2 hdok
      dsimp only [Ud.val]
      gi_wp2
      refine ⟨trivial, ?_⟩
      refine (CallsIn.inRound l2 (CallsIn.inRound l ((callsIn_wide (n := 3)).2 HCl.out))).mono ?_
      rintro e w5 ⟨v, rfl, ⟨⟨u', A', c'⟩, hu', rfl, hd1, hd2⟩, hf5⟩
      obtain rfl : u' = d.u := hu'
      have bx5 := HX.out.2.2.2.2.2.1.fr0 hf5
      have b8 := bx5.at_ 8 (v := .slice d.A d.u.ps.length d.c) rfl
      have z8 := bx5.frozen 8
      have lb5 := bx5.lt
      have hset : Blk (w5.setCell ⟨Bx, 8, none⟩ (.slice A' d.u.ps.length c')) Bx 37 #[.int .i64 d.u.kind, .int .i64 d.u.id, .int .i64 d.u.p.c, .int .i64 d.u.p.v0, .int .i64 d.u.p.v1, .int .i64 d.u.p.v2, .int .i64 d.u.p.v3, .int .i64 d.u.p.t, .slice A' d.u.ps.length c', .int .i64 d.u.n, .int .i64 d.u.old] := by
        have := bx5.set_ 8 (.slice A' d.u.ps.length c')
        simpa [Ud.box] using this
      have a0 := hset.at_ 0 rfl
      have a1 := hset.at_ 1 rfl
      have a2 := hset.at_ 2 rfl
      have a3 := hset.at_ 3 rfl
      have a4 := hset.at_ 4 rfl
      have a5 := hset.at_ 5 rfl
      have a6 := hset.at_ 6 rfl
      have a7 := hset.at_ 7 rfl
      have a8' := hset.at_ 8 rfl
      have a9 := hset.at_ 9 rfl
      have a10 := hset.at_ 10 rfl
      have hEb : Blk W' w1.heap.size 38 #[ov'] := HX.out.1
      have hEB : w1.heap.size ≠ Bx := by omega
      have hE5 : Blk (w5.setCell ⟨Bx, 8, none⟩ (.slice A' d.u.ps.length c')) w1.heap.size 38 #[ov'] := (hEb.fr0 hf5).far (p := ⟨Bx, 8, none⟩) hEB _
      have e0 := hE5.at_ 0 (v := ov') rfl
      have le5 := hE5.lt
      have hf5' : Fr [Bx] w5 (w5.setCell ⟨Bx, 8, none⟩ (.slice A' d.u.ps.length c')) := (Fr.refl _ _).setCell (.inl (by simp)) _
      have hf6 : Fr [Bx] W' (w5.setCell ⟨Bx, 8, none⟩ (.slice A' d.u.ps.length c')) := (hf5.any _).trans hf5'
      have hr6 := row_fr HX.out.2.1 hf6 (fun k hk hm => Hne.out (by rw [hk]; simpa using hm))
      have hpre : (outsO pre ++ outsI pre').length ≤ 10000000000 := by
        have h1 := outsO_len (rs := rs.drop i) (fun x hx => HH.out.2.2 _ (List.mem_map.2 ⟨x, List.mem_of_mem_drop hx, rfl⟩)) pre
        have h2 : (outsI pre').length = pre'.length := by simp [outsI]
        rw [List.length_append]
        have h3 : pre.length ≤ 100000 := by omega
        omega
      have hQBx : ∀ b ∈ QO, b ∉ [Bx] := fun b hb hm => by
        rw [List.mem_singleton] at hm
        subst hm
        obtain ⟨_, cs, hc⟩ := HX.out.2.2.2.2.1 b hb
        exact hc.ne_ HX.out.2.2.2.2.2.1 (by decide) rfl
      have hW5 : w.heap.size ≤ w5.heap.size := by have := hf5.size; have := HX.out.2.2.2.2.2.2.1.size; omega
      have hdX : PsOk (fun b => W'.heap.size ≤ b) (w5.setCell ⟨Bx, 8, none⟩ (.slice A' d.u.ps.length c')) ⟨d.u, A', c'⟩ := hd1.keep hf5' (fun b hb => by simp; omega)
      have hpX : ∀ b ∈ (⟨d.u, A', c'⟩ : Ud).pb, w.heap.size ≤ b ∧ ∃ cs, Blk (w5.setCell ⟨Bx, 8, none⟩ (.slice A' d.u.ps.length c')) b 34 cs := fun b hb => by
        obtain ⟨r1, r2, cs, r3⟩ := hd2 b hb
        exact ⟨by have := HX.out.2.2.2.2.2.2.1.size; omega, cs, r3.far (p := ⟨Bx, 8, none⟩) (by show b ≠ Bx; omega) _⟩
      have H5 := hide (And.intro hE5 (And.intro hr6 (And.intro (fun dd hdd => (HX.out.2.2.2.1 dd hdd).keep hf6 hQBx) (And.intro (fun b hb => (⟨(HX.out.2.2.2.2.1 b hb).1, (HX.out.2.2.2.2.1 b hb).2.imp fun cs hc => hc.fr hf6 (hQBx b hb)⟩ : w.heap.size ≤ b ∧ ∃ cs, Blk (w5.setCell ⟨Bx, 8, none⟩ (.slice A' d.u.ps.length c')) b 34 cs)) (And.intro hdX (And.intro hpX (And.intro hf6 hf5)))))))
      have hszS : (w5.setCell ⟨Bx, 8, none⟩ (.slice A' d.u.ps.length c')).heap.size = w5.heap.size := by simp [World.setCell]
      have hneE : ov'.ownBlock ≠ some w1.heap.size := row_blk_ne hr6 hE5 (by decide)
      clear bx5 hEb hEB hE5 hr6 hQBx hdX hpX hd1 hd2 hf5' hf6 hf5
      gi_wp2_with ((gi_at_builtin; refine wpListIn_append_lies _ rfl _ _ _ rfl w.heap.size 37 i9 _ 11 104 Tryd.underlying38 hi9 hz9 hs9 hb9 rfl (by omega) ov' (outsO pre ++ outsI pre').length (dsO.flatMap Ud.cells) rfl (H5.out.2.1.alloc _) ⟨w5.heap.size, 0, none⟩ 1 1 (Ud.cells ⟨d.u, A', c'⟩) rfl rfl (World.news_of_block (cs := #[.int .i64 d.u.kind, .int .i64 d.u.id, .int .i64 d.u.p.c, .int .i64 d.u.p.v0, .int .i64 d.u.p.v1, .int .i64 d.u.p.v2, .int .i64 d.u.p.v3, .int .i64 d.u.p.t, .slice A' d.u.ps.length c', .int .i64 d.u.n, .int .i64 d.u.old]) (t := 37) (fr := (0, 0)) (Blk.new_at _ _ _ _ (by simp))) (by simp [Ud.cells, Value.oneCell']) (by omega) (by unfold maxLen; omega) (by omega) (by simp; omega) (w5.heap.size + 1) (by simp) ?_; intro g2 c2 w6 hown hgrow hat hlt6; have E6 := ((H5.out.1.alloc _).grown hgrow (fun e => hneE e.symm)); have ee6 := E6.at_ 0 (v := ov') rfl; have ez6 := E6.frozen 0; have el6 := E6.lt; clear E6; have HG := hide (And.intro hown (And.intro hgrow hat)); clear hown hgrow hat hlt6))
      obtain ⟨hown, hgrow, hat⟩ := HG.out
      obtain ⟨hE5, hr6, hp6, hq6, hdX, hpX, hf6, hf5⟩ := H5.out
      obtain ⟨hO1, hO2, hO3, hO4, hO5, hbx, hBW, hKF, hKL, hKL2⟩ := HX.out
      have hXf : Fr [] (w5.setCell ⟨Bx, 8, none⟩ (.slice A' d.u.ps.length c')) ((w5.setCell ⟨Bx, 8, none⟩ (.slice A' d.u.ps.length c')).alloc (.cells #[.int .i64 d.u.kind, .int .i64 d.u.id, .int .i64 d.u.p.c, .int .i64 d.u.p.v0, .int .i64 d.u.p.v1, .int .i64 d.u.p.v2, .int .i64 d.u.p.v3, .int .i64 d.u.p.t, .slice A' d.u.ps.length c', .int .i64 d.u.n, .int .i64 d.u.old] 37)) := (Fr.refl _ _).alloc _
      obtain ⟨hOut, hFO⟩ := out_step (d := ⟨d.u, A', c'⟩) hE5 hr6 hO3 hp6 hq6 hXf (by omega) (hdX.fr0 hXf) (fun b hb => ⟨(hpX b hb).1, (hpX b hb).2.imp fun cs hc => hc.fr0 hXf⟩) hown hgrow (hat.imp id (fun e => by rw [e]; simp))
      have htot := (hf6.mono (T := Bx :: w1.heap.size :: ov'.ownBlock.toList) (fun x hx => by rw [List.mem_singleton] at hx; subst hx; simp)).trans (hFO.mono (fun x hx => List.mem_cons_of_mem _ hx))
      have hKO := (fr_keeps hf5).trans ((KeepsOthers.setCell w5 ⟨Bx, 8, none⟩ (.slice A' d.u.ps.length c')).trans ((KeepsOthers.alloc _ (.cells #[.int .i64 d.u.kind, .int .i64 d.u.id, .int .i64 d.u.p.c, .int .i64 d.u.p.v0, .int .i64 d.u.p.v1, .int .i64 d.u.p.v2, .int .i64 d.u.p.v3, .int .i64 d.u.p.t, .slice A' d.u.ps.length c', .int .i64 d.u.n, .int .i64 d.u.old] 37)).trans ((KeepsOthers.of_grownBy hgrow (own_cells (hr6.alloc _))).trans (KeepsOthers.setCell w6 ⟨w1.heap.size, 0, none⟩ (.slice (some ⟨g2, 0, none⟩) ((outsO pre ++ outsI pre').length + 1) c2)))))
      have hovB : ∀ b, ov'.ownBlock = some b → w.heap.size ≤ b := fun b hb => (row_lt hO2 hb).2
      have hallB : ∀ b ∈ Bx :: w1.heap.size :: ov'.ownBlock.toList, w.heap.size ≤ b := by
        intro b hb
        simp only [List.mem_cons, Option.mem_toList] at hb
        rcases hb with rfl | rfl | hb
        · have := hB.size; omega
        · exact hs1
        · exact hovB b hb
      have hBU : Blk W' W.heap.size 38 #[.slice Au st.us.length cu] := (hKL2.blk W.heap.size (by simp)).trans bU
      have hBS : Blk W' (w1.heap.size + 1) 65 #[.slice (some ⟨gg, o + i, none⟩) (rs.length - i) (c - i)] := ((hKL.blk _ (by simp)).trans (hKLo.blk _ (by simp))).trans bS
      have hs' : w3.heap.size ≤ W'.heap.size := hs
      have hKLin : KL (W.heap.size :: (Au.map (·.block)).toList) W' _ := KL.of_fr htot (fun k hk => ⟨Nat.lt_of_lt_of_le (hL3 k hk) hs', fun hm => by
        rcases List.mem_cons.1 hk with rfl | hk
        · simp only [List.mem_cons, Option.mem_toList] at hm
          rcases hm with e | e | e
          · omega
          · omega
          · exact row_blk_ne hO2 hBU (by decide) e
        · have h1 := hAu k hk
          have h2 := hallB k hm
          omega⟩)
      have hKLout : KL [w1.heap.size + 1, gg] W' _ := KL.of_fr htot (fun k hk => by
        simp only [List.mem_cons, List.not_mem_nil, or_false] at hk
        rcases hk with rfl | rfl
        · refine ⟨by omega, fun hm => ?_⟩
          simp only [List.mem_cons, Option.mem_toList] at hm
          rcases hm with e | e | e
          · omega
          · omega
          · exact row_blk_ne hO2 hBS (by decide) e
        · exact ⟨by omega, fun hm => by have h2 := hallB _ hm; omega⟩)
      rw [← List.length_append]
      refine ⟨hKO.from _, hKLin, ⟨?_, Nat.le_trans hs' htot.size⟩, ⟨hBW.trans (htot.below hallB hBW.size), hKF.trans (hKO.from _)⟩, hKL.trans hKLout, hKL2.trans hKLin⟩
      rw [show outsO pre ++ outsI (pre' ++ [(yi, ⟨d, hdm⟩)]) = (outsO pre ++ outsI pre') ++ [d.u] by simp [outsI]]
      exact hOut
    case done2 =>
      rintro ys' W' rfl ⟨⟨hO, hs⟩, ⟨hBW, hKF⟩, hKL, hKL2⟩
      gi_wp2
      refine ⟨hKF, hKL, ⟨?_, by have hs' : w3.heap.size ≤ W'.heap.size := hs; omega⟩, hBW, hKLo.trans hKL⟩
      rw [outsI_all, HD.out.2.2.1] at hO
      rw [show outsO (pre ++ [(xi, ⟨(p, st, T), hxm⟩)]) = outsO pre ++ st.us.reverse by simp [outsO]]
      exact hO
    case stop2 =>
      rintro c pre' W' _ h
      exact h.elim
  case stop =>
    rintro D c pre W _ _ h _
    exact h.elim
  case done =>
    rintro D ys W hD rfl ⟨⟨hO, hsW⟩, hB, hKLo⟩ hK
    rw [outsO_all] at hO
    have hO0 := hO
    obtain ⟨ov, dsO, QO, hO1, hO2, hO3, hO4, hO5⟩ := hO
    have e0 := hO1.cell
    have le0 := hO1.lt
    have HX := hide (And.intro hO0 (And.intro hB hK))
    clear hO0 hO1 hO2 hO3 hO4 hO5 hB hKLo hK
    go_wp2_with fail
    refine ⟨by simp, .inl ⟨_, _, rfl, run_takeDeferred HX.out.2.2, ?_⟩⟩
    refine ⟨_, results_tmp2 rfl _ _ _, ov, rfl, ?_, ?_⟩
    · rw [← List.map_drop]
      exact out_final HX.out.1 e0 HX.out.2.2 rfl
    · exact (Fr.of_below HX.out.2.1 []).grown (grownBy_putObj' W D _) (fun k e => by cases e; exact .inr (by omega))
end Go.Proofs.YtioeafjlbdpjoaaDoor

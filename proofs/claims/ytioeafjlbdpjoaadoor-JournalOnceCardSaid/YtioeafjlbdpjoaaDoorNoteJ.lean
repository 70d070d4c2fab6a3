/- Journal: Note. -/
import Derived.Test.YtioeafjlbdpjoaaDoorNoteE
import Derived.Deep.DeepCutAuto
namespace Go.Proofs.YtioeafjlbdpjoaaDoor
open Go.RowKit
theorem infoUndo : (Tryd.prog.info? 37).map (fun i => (i.zero, i.size, i.bytes)) = some (some (.agg #[.int .i64 0, .int .i64 0, .int .i64 0, .int .i64 0, .int .i64 0, .int .i64 0, .int .i64 0, .int .i64 0, .slice none 0 0, .int .i64 0, .int .i64 0]), 11, 104) := by kernel_rfl
/-- whether an entry says nothing new behind others -/
def stale (s : St) (u : Un) : Bool := (othersK u).any fun k => decide (k ∈ s.us.map ownK)
def NotePost (B : Nat) (w : World) (ad : Nat → Addr) (g : Nat) (sts : List St) (s : St) (u : Un) (most size : Int) (S : List Nat) (e : Ending) (w' : World) : Prop :=
  (stale s u = true ∧ e = .returned .nilIface ∧ Fr [] w w') ∨ (stale s u = false ∧ most ≤ size ∧ ErrPost w ad 6 e w') ∨
  (stale s u = false ∧ size < most ∧ e = .returned .nilIface ∧ ∃ S', JR B w' g (sts ++ [⟨s.fr, s.us ++ [u]⟩]) most (size + 1) S' ∧ Stp S S' w w')
/-- what the store of the longer row leaves -/
def NoteMid (B p m : Nat) (uv : Value) (fr : Int) (n : Nat) (xs : List Value) (d : Ud) (w8 wx : World) : Prop :=
  ∃ gg cap, Blk wx p 72 #[.int .i64 fr, .slice (some ⟨gg, 0, none⟩) (n + 1) cap, .map (some m)] ∧ wx.ownsRow B 37 11 (.slice (some ⟨gg, 0, none⟩) (n + 1) cap) (n + 1) (xs ++ d.cells) ∧ Fr (p :: uv.ownBlock.toList) w8 wx ∧ (uv.ownBlock = some gg ∨ w8.heap.size ≤ gg)
theorem note_mid {B p m gg cap : Nat} {uv : Value} {fr : Int} {n : Nat} {xs : List Value} {d : Ud} {w8 X w10 : World} (hX : Fr [] w8 X) (hown : w10.ownsRow B 37 11 (.slice (some ⟨gg, 0, none⟩) (n + 1) cap) (n + 1) (xs ++ d.cells)) (hgrow : X.grownBy w10 uv.ownBlock) (hat : uv.ownBlock = some gg ∨ gg = w8.heap.size + 1)
    (hp : Blk w10 p 72 #[.int .i64 fr, uv, .map (some m)]) : NoteMid B p m uv fr n xs d w8 (w10.setCell ⟨p, 1, none⟩ (.slice (some ⟨gg, 0, none⟩) (n + 1) cap)) := by
  have hne : gg ≠ p := by
    rintro rfl
    exact row_blk_ne hown hp (by decide) rfl
  refine ⟨gg, cap, by simpa using hp.set_ 1 (.slice (some ⟨gg, 0, none⟩) (n + 1) cap), row_far hown (by simpa [Value.ownBlock] using hne) _, (((hX.any _).grown hgrow fun k hk => .inl (by simp [hk])).setCell (.inl (by simp)) _), hat.imp id fun e => by omega⟩
theorem note_end {B : Nat} {w w' : World} {g p m gg cap : Nat} {sl uv : Value} {rs : List Sr} {T : List Nat} {s : St} {Q : List Nat} {most size : Int} {ds : List Ud} {d : Ud} {u : Un}
    (h3 : RowO w B 68 sl (rs ++ [(p, s, T)]).length ((rs ++ [(p, s, T)]).map fun x => ptr x.1)) (h2 : Blk w g 67 #[sl, .int .i64 most, .int .i64 size]) (h4 : ∀ x ∈ rs ++ [(p, s, T)], StR B (· ∈ Q) w x.1 x.2.1 x.2.2) (h5 : B ≤ g) (h6 : ((rs ++ [(p, s, T)]).flatMap (·.2.2)).Nodup)
    (h7 : ∀ b ∈ Q, b ∉ g :: (sl.ownBlock.toList ++ (rs ++ [(p, s, T)]).flatMap (·.2.2)) ∧ B ≤ b ∧ b < w.heap.size) (hT : T = p :: m :: uv.ownBlock.toList) (hpB : B ≤ p) (hmB : B ≤ m) (hB : B ≤ w.heap.size)
    (hds : ds.map (·.u) = s.us) (hok : ∀ d ∈ ds, PsOk (· ∈ Q) w d) (hu : d.u = u)
    (hp : Blk w' p 72 #[.int .i64 s.fr, .slice (some ⟨gg, 0, none⟩) (s.us.length + 1) cap, .map (some m)]) (hr : w'.ownsRow B 37 11 (.slice (some ⟨gg, 0, none⟩) (s.us.length + 1) cap) (s.us.length + 1) (ds.flatMap Ud.cells ++ d.cells))
    (hm : SetB w' m (s.us.map ownK ++ [ownK u])) (hg : Blk w' g 67 #[sl, .int .i64 most, .int .i64 (size + 1)]) (hf : Fr (g :: p :: m :: uv.ownBlock.toList) w w') (hat : uv.ownBlock = some gg ∨ w.heap.size ≤ gg)
    (hd : PsOk (fun b => w.heap.size ≤ b) w' d) (hpb : ∀ b ∈ d.pb, w.heap.size ≤ b ∧ b < w'.heap.size) (hgp : gg ∉ d.pb) :
    ∃ S', JR B w' g (rs.map (·.2.1) ++ [⟨s.fr, s.us ++ [u]⟩]) most (size + 1) S' ∧ Stp ((g :: (sl.ownBlock.toList ++ (rs ++ [(p, s, T)]).flatMap (·.2.2))) ++ Q) S' w w' := by
  subst hT
  have hslg : sl.ownBlock ≠ some g := h3.ne_blk h2 (by decide)
  have hx := h4 (p, s, p :: m :: uv.ownBlock.toList) (by simp)
  have hslT : ∀ k, sl.ownBlock = some k → k ∉ p :: m :: uv.ownBlock.toList := fun k hk => by
    obtain ⟨cur, hc, _⟩ := h3.blk hk
    exact hx.out hc (by decide) (by decide)
  have hgT : g ∉ p :: m :: uv.ownBlock.toList := hx.out h2 (by decide) (by decide)
  rw [List.flatMap_append, List.nodup_append] at h6
  obtain ⟨n1, n2, n3⟩ := h6
  simp only [List.flatMap_cons, List.flatMap_nil, List.append_nil] at n2 n3
  have hsub : ∀ b ∈ g :: p :: m :: uv.ownBlock.toList, b ∈ (g :: (sl.ownBlock.toList ++ (rs ++ [(p, s, p :: m :: uv.ownBlock.toList)]).flatMap (·.2.2))) := by
    intro b hb
    rcases List.mem_cons.1 hb with rfl | hb
    · simp
    · rw [List.flatMap_append]
      refine List.mem_cons_of_mem _ (List.mem_append_right _ (List.mem_append_right _ ?_))
      simpa using hb
  have hrsT : ∀ x ∈ rs, ∀ b ∈ x.2.2, b ∉ g :: p :: m :: uv.ownBlock.toList := by
    intro x hxm b hb hm
    rcases List.mem_cons.1 hm with rfl | hm
    · exact (h4 x (by simp [hxm])).out h2 (by decide) (by decide) hb
    · exact n3 b (List.mem_flatMap.2 ⟨x, hxm, hb⟩) b hm rfl
  have hggp : gg ≠ p := by
    rintro rfl
    exact row_blk_ne hr hp (by decide) rfl
  have hggm : gg ≠ m := by
    rintro rfl
    obtain ⟨cur, hc, _⟩ := row_blk hr
    exact hm.ne_blk hc rfl
  have hggsl : ∀ k, sl.ownBlock = some k → k < w.heap.size := fun k hk => by obtain ⟨cur, hc, _⟩ := h3.blk hk; exact hc.lt
  have hpm : p ≠ m := hm.ne_blk hp
  refine ⟨(g :: (sl.ownBlock.toList ++ (rs ++ [((p, ⟨s.fr, s.us ++ [u]⟩, [p, m, gg]) : Sr)]).flatMap (·.2.2))) ++ (Q ++ d.pb), ⟨sl, rs ++ [(p, ⟨s.fr, s.us ++ [u]⟩, [p, m, gg])], Q ++ d.pb, by simp, hg, ?_, ?_, h5, ?_, ?_, rfl⟩, hf.mono ?_, ?_⟩
  · have := h3.fr hf (fun k hk hm => by
      rcases List.mem_cons.1 hm with rfl | hm
      · exact hslg hk
      · exact hslT k hk hm)
    simpa using this
  · intro x hxm
    rcases List.mem_append.1 hxm with hxm | hxm
    · exact ((h4 x (by simp [hxm])).fr' hf (hrsT x hxm) (fun b hb hm => (h7 b hb).1 (hsub b hm))).imp fun b hb _ => by simp [hb]
    · rw [List.mem_singleton] at hxm
      subst hxm
      refine ⟨_, m, ds ++ [d], hp, ?_, ?_, ?_, ?_, hpB, hmB, rfl⟩
      · rw [List.flatMap_append, List.length_append]
        simpa using hr
      · rw [List.map_append]; exact hm
      · rw [List.map_append, hds]; simp [hu]
      · intro d' hd'
        rcases List.mem_append.1 hd' with hd' | hd'
        · exact ((hok d' hd').keep hf (fun b hb hm => (h7 b hb).1 (hsub b hm))).imp fun b hb _ => by simp [hb]
        · rw [List.mem_singleton] at hd'
          subst hd'
          exact hd.own.imp fun b hb _ => by simp [hb.1]
  · rw [List.flatMap_append, List.nodup_append]
    refine ⟨n1, by simp [hpm, hggp.symm, hggm.symm], fun a ha b hb => ?_⟩
    obtain ⟨x, hxm, ha⟩ := List.mem_flatMap.1 ha
    have ha2 := hrsT x hxm a ha
    have ha3 := ((h4 x (by simp [hxm])).ge a ha).2
    simp only [List.mem_cons, Option.mem_toList, not_or] at ha2
    simp only [List.flatMap_cons, List.flatMap_nil, List.append_nil, List.mem_cons, List.not_mem_nil, or_false] at hb
    rcases hb with rfl | rfl | rfl
    · exact ha2.2.1
    · exact ha2.2.2.1
    · rintro rfl
      rcases hat with e | e
      · exact ha2.2.2.2 e
      · omega
  · intro b hb
    have hcase : b ∈ Q ∨ b ∈ d.pb := List.mem_append.1 hb
    rcases hcase with hb | hb
    · obtain ⟨r1, r2, r3⟩ := h7 b hb
      refine ⟨fun hmm => ?_, r2, Nat.lt_of_lt_of_le r3 hf.size⟩
      simp only [List.mem_cons, List.mem_append, List.flatMap_append, Option.mem_toList, List.flatMap_cons, List.flatMap_nil, List.append_nil, List.not_mem_nil, or_false, not_or] at hmm r1
      rcases hmm with rfl | hmm | hmm | rfl | rfl | rfl
      · exact r1.1 rfl
      · exact r1.2.1 hmm
      · exact r1.2.2.1 hmm
      · exact r1.2.2.2.1 rfl
      · exact r1.2.2.2.2.1 rfl
      · rcases hat with e | e
        · exact r1.2.2.2.2.2 e
        · omega
    · obtain ⟨r1, r2⟩ := hpb b hb
      refine ⟨fun hmm => ?_, by omega, r2⟩
      simp only [List.mem_cons, List.mem_append, List.flatMap_append, Option.mem_toList, List.flatMap_cons, List.flatMap_nil, List.append_nil, List.not_mem_nil, or_false] at hmm
      rcases hmm with rfl | hmm | hmm | rfl | rfl | rfl
      · have := h2.lt; omega
      · have := hggsl b hmm; omega
      · obtain ⟨x, hxm, ha⟩ := List.mem_flatMap.1 hmm
        have ha3 := ((h4 x (by simp [hxm])).ge b ha).2
        omega
      · have := (hx.ge b (by simp)).2; omega
      · have := (hx.ge b (by simp)).2; omega
      · exact hgp hb
  · exact fun b hb => List.mem_append_left _ (hsub b hb)
  · intro b hb
    simp only [List.mem_cons, List.mem_append, List.flatMap_append, Option.mem_toList, List.flatMap_cons, List.flatMap_nil, List.append_nil, List.not_mem_nil, or_false] at hb ⊢
    rcases hb with (rfl | hb | hb | rfl | rfl | rfl) | hb | hb
    · exact .inl (.inl (.inl rfl))
    · exact .inl (.inl (.inr (.inl hb)))
    · exact .inl (.inl (.inr (.inr (.inl hb))))
    · exact .inl (.inl (.inr (.inr (.inr (.inl rfl)))))
    · exact .inl (.inl (.inr (.inr (.inr (.inr (.inl rfl))))))
    · rcases hat with e | e
      · exact .inl (.inl (.inr (.inr (.inr (.inr (.inr e))))))
      · exact .inr e
    · exact .inl (.inr hb)
    · exact .inr (hpb b hb).1
set_option maxRecDepth 100000 in
set_option maxHeartbeats 4000000 in
theorem note_calls {K : List Nat} {B0 : Nat} {B : Nat} {w : World} {ad : Nat → Addr} (hK : KJ K) (hs : Sents K B0 w ad) {g : Nat} {sts : List St} {s : St} {most size : Int} {S : List Nat} (h : JR B w g (sts ++ [s]) most size S) (hB : B ≤ w.heap.size) (hn : sts.length ≤ 99999)
    (hsz0 : 0 ≤ size) (hsz1 : size ≤ 65536) (hus : s.us.length ≤ 65536) {good : Nat → Prop} {d : Ud} (hd : PsOk good w d) (hk1 : 1 ≤ d.u.kind) (hk2 : d.u.kind ≤ 9) :
    Calls Tryd.prog 10 #[ptr g, d.val] w (NotePost B w ad g sts s d.u most size S) := by
  obtain ⟨sl, rs, Q, h1, h2, h3, h4, h5, h6, h7, rfl⟩ := h
  obtain ⟨rs', x, rfl⟩ : ∃ rs' x, rs = rs' ++ [x] := by
    rcases List.eq_nil_or_concat rs with rfl | ⟨a, b, rfl⟩
    · simp at h1
    · exact ⟨a, b, by simp⟩
  rw [List.map_append, List.map_cons, List.map_nil] at h1
  obtain ⟨h1a, h1b⟩ := List.append_inj' h1 (by simp)
  obtain ⟨p, s', T⟩ := x
  obtain rfl : s' = s := by simpa using h1b
  obtain ⟨uv, m, ds, q1, q2, q3, q4, q5, q6, q7, q8⟩ := h4 (p, s', T) (by simp)
  dsimp only at q1 q2 q3 q4 q5 q6 q7 q8
  obtain ⟨i9, hi9, hz9, hs9, hb9⟩ := info_parts infoUndo
  have c6 := hs.cell 6 hK.h6
  have l6 := Nat.lt_of_lt_of_le (hs.glob 6 hK.h6) hs.le
  have HW := hide (fun W => wrong_calls (w := W) (ad := ad) 6)
  simp only [gOf] at c6 l6
  have HL := hide (fun W (hf : Fr [] w W) => last_some (x := (p, s', T)) (rs := rs') (h2.fr0 hf) (h3.fr0 hf) (by have := congrArg List.length h1a; simp at this; omega))
  have HA := hide (fun W => about_calls W d)
  have hd1 : decide (d.u.kind < 1) = false := decide_eq_false (by omega)
  have hd2 : decide (9 < d.u.kind) = false := decide_eq_false (by omega)
  have HH := hide (And.intro h2 (And.intro h3 (And.intro h4 (And.intro h5 (And.intro h6 (And.intro h7 (And.intro q1 (And.intro q2 (And.intro q3 (And.intro q4 (And.intro q5 (And.intro hd hB))))))))))))
  obtain ⟨S0, hS0⟩ : ∃ S0, S0 = (g :: (sl.ownBlock.toList ++ (rs' ++ [(p, s', T)]).flatMap (·.2.2))) ++ Q := ⟨_, rfl⟩
  rw [← hS0]
  have HS0 := hide (And.intro hS0 h1a)
  have hwa : Fr [] w (w.alloc (.cells d.box 37)) := (Fr.refl _ _).alloc _
  have hua : Blk (w.alloc (.cells d.box 37)) w.heap.size 37 d.box := Blk.new _ _ _
  have HU := hide hua
  have HWA := hide hwa
  clear h2 h3 h4 h5 h6 h7 q1 q2 q3 q4 q5 hd h1 h1b h1a hS0 hs hK hwa hua hk1 hk2
  have hv : d.val = .agg #[.int .i64 d.u.kind, .int .i64 d.u.id, .int .i64 d.u.p.c, .int .i64 d.u.p.v0, .int .i64 d.u.p.v1, .int .i64 d.u.p.v2, .int .i64 d.u.p.v3, .int .i64 d.u.p.t, .slice d.A d.u.ps.length d.c, .int .i64 d.u.n, .int .i64 d.u.old] := rfl
  have hbx : d.box = #[.int .i64 d.u.kind, .int .i64 d.u.id, .int .i64 d.u.p.c, .int .i64 d.u.p.v0, .int .i64 d.u.p.v1, .int .i64 d.u.p.v2, .int .i64 d.u.p.v3, .int .i64 d.u.p.t, .slice d.A d.u.ps.length d.c, .int .i64 d.u.n, .int .i64 d.u.old] := rfl
  rw [hv] at HA ⊢
  rw [hbx] at HU HWA
  clear hv hbx
  go_enter Tryd.func10, Tryd.ntmps10
  go_wp2_with fail
  refine (HL.out _ HWA.out).mono ?_
  rintro e w1 ⟨rfl, hf1⟩
  have H1 := hide hf1
  clear hf1
  go_wp2_with fail
  refine (HL.out _ (HWA.out.trans H1.out)).mono ?_
  rintro e w2 ⟨rfl, hf2⟩
  have H2 := hide (H1.out.trans hf2)
  have u2 := HU.out.fr0 H2.out
  have lu2 := u2.lt
  have a0 := u2.at_ 0 rfl
  have a1 := u2.at_ 1 rfl
  have a2 := u2.at_ 2 rfl
  have a3 := u2.at_ 3 rfl
  have a4 := u2.at_ 4 rfl
  have a5 := u2.at_ 5 rfl
  have a6 := u2.at_ 6 rfl
  have a7 := u2.at_ 7 rfl
  have a8 := u2.at_ 8 rfl
  have a9 := u2.at_ 9 rfl
  have a10 := u2.at_ 10 rfl
  clear hf2 u2
  go_wp2_with fail
  refine (HA.out _).mono ?_
  rintro e w4 ⟨v, rfl, hrow, hf4⟩
  obtain ⟨Ao, co, rfl, hrd⟩ := row_reads hrow
  have hB1 : Blk w4 w2.heap.size 68 #[ptr p] := (Blk.new _ _ _).fr0 hf4
  have hf2' : Fr [] w2 w4 := ((Fr.refl _ _).alloc _).trans hf4
  have H4 := hide (And.intro hrd (And.intro hB1 (And.intro hf2' ((HWA.out.trans H2.out).trans hf2'))))
  have hol : (othersK d.u).length ≤ 1000 := by
    unfold othersK
    repeat' split
    all_goals simp
  have HQ := hide (fun W (hf : Fr [] w4 W) => cont_calls (c := co) (n := (othersK d.u).length) (hrd.fr0 hf) rfl hol (fun k => decide (k ∈ s'.us.map ownK)) (fun W' k hf' => note1_calls (hB1.fr0 (hf.trans hf')) (HH.out.2.2.2.2.2.2.1.fr0 ((H4.out.2.2.2.trans hf).trans hf')) (HH.out.2.2.2.2.2.2.2.2.1.fr0 ((H4.out.2.2.2.trans hf).trans hf')) k))
  have hst : ((othersK d.u).any fun k => decide (k ∈ s'.us.map ownK)) = stale s' d.u := rfl
  rw [hst] at HQ
  have lw4 := H4.out.2.2.1.size
  clear hrd hrow hf4 hB1 hf2' a0 a1 a2 a3 a4 a5 a6 a7 a8 a9 a10 hst HA HL
  generalize hoN : (othersK d.u).length = oN at *
  go_wp2_with fail
  refine (HQ.out _ ((Fr.refl _ _).alloc _)).mono ?_
  rintro e w6 ⟨rfl, hf6⟩
  have H6 := hide (((Fr.refl [] w4).alloc (.cells #[.int .i64 (ownK d.u).kind, .int .i64 (ownK d.u).id, .int .i64 (ownK d.u).n] 74)).trans hf6)
  have HKb := hide ((Blk.new w4 74 #[.int .i64 (ownK d.u).kind, .int .i64 (ownK d.u).id, .int .i64 (ownK d.u).n]).fr0 hf6)
  clear hf6 HQ hoN
  have HF6 := hide (H4.out.2.2.2.trans H6.out)
  cases hsta : stale s' d.u with
  | true =>
    have HS := hide hsta
    clear hsta
    go_wp2_with fail
    go_ret
    exact .inl ⟨HS.out, rfl, HF6.out⟩
  | false =>
    have HS := hide hsta
    clear hsta
    have g6 := HH.out.1.fr0 HF6.out
    have g1 := g6.at_ 1 (v := .int .i64 most) rfl
    have g2 := g6.at_ 2 (v := .int .i64 size) rfl
    have lg := g6.lt
    have e6 := (HF6.out.cell l6 (by simp)).trans c6
    have k6 := Nat.lt_of_lt_of_le l6 HF6.out.size
    clear g6
    by_cases hfull : most ≤ size
    · have hfull' : decide (size ≥ most) = true := decide_eq_true hfull
      go_wp2_with fail
      go_quiet (fail)
      go_wp2_with fail
      refine (HW.out _).mono ?_
      rintro e w' ⟨v, rfl, hn, hf⟩
      have H7 := hide (And.intro hn hf)
      obtain ⟨t, a, rfl⟩ := hn.form
      clear hn hf
      go_wp2_with fail
      go_ret
      exact .inr (.inl ⟨HS.out, hfull, _, rfl, H7.out.1.elder HF6.out.size, (HF6.out.drewN _).trans H7.out.2⟩)
    · have hfull' : decide (size ≥ most) = false := decide_eq_false hfull
      have u6 := HU.out.fr0 ((H2.out.trans H4.out.2.2.1).trans H6.out)
      have a8 := u6.at_ 8 rfl
      have lu := u6.lt
      have HCl := hide (fun W (hf : Fr [] w6 W) => clone_calls (HH.out.2.2.2.2.2.2.2.2.2.2.2.1.fr0 (HF6.out.trans hf)))
      have Hsz := hide (And.intro hfull (And.intro hsz0 hsz1))
      clear u6 hfull
      go_wp2_with fail
      go_quiet (fail)
      go_wp2_with fail
      refine (HCl.out _ ((Fr.refl _ _).drewN _)).mono ?_
      rintro e w7 ⟨v7, rfl, ⟨⟨u', A', c'⟩, hd1', rfl, hd2', hd3'⟩, hf7⟩
      obtain rfl : u' = d.u := hd1'
      dsimp only
      have hf67 : Fr [] w6 w7 := ((Fr.refl [] w6).drewN _).trans hf7
      have H7 := hide (And.intro hd2' (And.intro hd3' hf67))
      have u7 := HU.out.fr0 (((H2.out.trans H4.out.2.2.1).trans H6.out).trans hf67)
      have b8 := u7.at_ 8 rfl
      have z8 := u7.frozen 8
      have lu7 := u7.lt
      have u8 := u7.set_ 8 (.slice A' d.u.ps.length c')
      have hf8 : Fr [w.heap.size] w7 (w7.setCell ⟨w.heap.size, 8, none⟩ (.slice A' d.u.ps.length c')) := (Fr.refl _ _).setCell (.inl (by simp)) _
      have hF8 : Fr [] w (w7.setCell ⟨w.heap.size, 8, none⟩ (.slice A' d.u.ps.length c')) := (HF6.out.trans hf67).step hf8 (fun b hb => .inr (by simp at hb; omega))
      have hB8 : Blk (w7.setCell ⟨w.heap.size, 8, none⟩ (.slice A' d.u.ps.length c')) w2.heap.size 68 #[ptr p] := (H4.out.2.1.fr0 (H6.out.trans hf67)).fr hf8 (by simp; omega)
      have hK8 : Blk (w7.setCell ⟨w.heap.size, 8, none⟩ (.slice A' d.u.ps.length c')) w4.heap.size 74 #[.int .i64 (ownK d.u).kind, .int .i64 (ownK d.u).id, .int .i64 (ownK d.u).n] := (HKb.out.fr0 hf67).fr hf8 (by simp; omega)
      have hd8 : PsOk (fun b => w.heap.size < b) (w7.setCell ⟨w.heap.size, 8, none⟩ (.slice A' d.u.ps.length c')) ⟨d.u, A', c'⟩ := (hd2'.imp (good' := fun b => w.heap.size < b) (fun b hb _ => by have h1 := H6.out.size; have h2 : w6.heap.size ≤ b := hb; omega)).keep hf8 (fun b hb => by simp; omega)
      have Hpb := hide (show ∀ b ∈ (⟨d.u, A', c'⟩ : Ud).pb, w.heap.size < b ∧ b < w7.heap.size from fun b hb => by have h1 := H6.out.size; have h2 : w6.heap.size ≤ b := (hd3' b hb).1; exact ⟨by omega, (hd3' b hb).2.1⟩)
      clear hd2' hd3' hf7 hf67 u7 a8 lu HCl
      go_wp2_with fail
      simp only [List.setIfInBounds_toArray, List.set_cons_succ, List.set_cons_zero, List.set_nil] at u8
      have hsz8 : (w7.setCell ⟨w.heap.size, 8, none⟩ (.slice A' d.u.ps.length c')).heap.size = w7.heap.size := by simp [World.setCell]
      generalize w7.setCell ⟨w.heap.size, 8, none⟩ (.slice A' d.u.ps.length c') = w8 at *
      have a0 := u8.at_ 0 rfl
      have a1 := u8.at_ 1 rfl
      have a2 := u8.at_ 2 rfl
      have a3 := u8.at_ 3 rfl
      have a4 := u8.at_ 4 rfl
      have a5 := u8.at_ 5 rfl
      have a6 := u8.at_ 6 rfl
      have a7 := u8.at_ 7 rfl
      have a8 := u8.at_ 8 rfl
      have a9 := u8.at_ 9 rfl
      have a10 := u8.at_ 10 rfl
      have lu8 := u8.lt
      have bb := hB8.at_ 0 (v := ptr p) rfl
      have lb := hB8.lt
      have p8 := HH.out.2.2.2.2.2.2.1.fr0 hF8
      have p1 := p8.at_ 1 (v := uv) rfl
      have lp := p8.lt
      have hr8 := row_fr HH.out.2.2.2.2.2.2.2.1 hF8 (by simp)
      have hnp : uv.ownBlock ≠ some p := row_blk_ne hr8 p8 (by decide)
      have hnb : w2.heap.size ≠ p ∧ uv.ownBlock ≠ some w.heap.size := ⟨hB8.ne_ p8 (by decide), fun e => by have := (row_lt HH.out.2.2.2.2.2.2.2.1 e).1; omega⟩
      have hnb2 : uv.ownBlock ≠ some w2.heap.size := row_blk_ne hr8 hB8 (by decide)
      have lpw : p < w.heap.size := HH.out.2.2.2.2.2.2.1.lt
      have H8 := hide (And.intro p8 (And.intro hr8 (And.intro hnp (And.intro hF8 (And.intro hB8 (And.intro hK8 (And.intro hd8 (And.intro (And.intro hsz8 hnb2) (And.intro hnb u8)))))))))
      have hbs : B ≤ w8.heap.size := by have := hF8.size; omega
      clear u8 p8 hr8 hnp hnb hnb2 hF8 hB8 hK8 hd8 hsz8 hf8 b8 z8 g1 g2 e6 k6 lg lu7
      go_upto_region 14 with (fail)
      go_cut [62] (fun s62 wx => NoteMid B p m uv s'.fr s'.us.length (ds.flatMap Ud.cells) ⟨d.u, A', c'⟩ w8 wx)
      case first =>
        go_region_law (first | (refine step_append_lies _ (by rfl) _ _ _ (by rfl) B 37 i9 _ 11 104 Tryd.underlying38 hi9 hz9 hs9 hb9 rfl (by omega) uv s'.us.length (ds.flatMap Ud.cells) (by rfl) (row_fr H8.out.2.1 (show Fr [] w8 _ by (repeat (first | exact Fr.refl _ _ | apply Fr.drew | apply Fr.drewN | apply Fr.alloc | (refine Fr.setCell ?_ (by first | (left; simp [Value.ownBlock]; done) | (right; simp; omega) | (right; simp; done)) _)))) (by simp)) ⟨w8.heap.size, 0, none⟩ 1 1 (Ud.cells ⟨d.u, A', c'⟩) (by rfl) (by rfl) (World.news_of_block (cs := #[.int .i64 d.u.kind, .int .i64 d.u.id, .int .i64 d.u.p.c, .int .i64 d.u.p.v0, .int .i64 d.u.p.v1, .int .i64 d.u.p.v2, .int .i64 d.u.p.v3, .int .i64 d.u.p.t, .slice A' d.u.ps.length c', .int .i64 d.u.n, .int .i64 d.u.old]) (t := 37) (fr := (0, 0)) (Blk.new_at _ _ _ _ (by simp))) (by simp [Ud.cells, Value.oneCell']) (by omega) (by unfold maxLen; omega) (by omega) (by simp; omega) (w8.heap.size + 1) (by simp) ?_; intro gg cap w10 hown hgrow hat hlt; have p10 := (H8.out.1.fr0 (show Fr [] w8 _ by (repeat (first | exact Fr.refl _ _ | apply Fr.drew | apply Fr.drewN | apply Fr.alloc | (refine Fr.setCell ?_ (by first | (left; simp [Value.ownBlock]; done) | (right; simp; omega) | (right; simp; done)) _))))).grown hgrow (fun e => H8.out.2.2.1 e.symm); have q10 := p10.at_ 1 (v := uv) rfl; have z10 := p10.frozen 1; have l10 := p10.lt; have b10 := (H8.out.2.2.2.2.1.fr0 (show Fr [] w8 _ by (repeat (first | exact Fr.refl _ _ | apply Fr.drew | apply Fr.drewN | apply Fr.alloc | (refine Fr.setCell ?_ (by first | (left; simp [Value.ownBlock]; done) | (right; simp; omega) | (right; simp; done)) _))))).grown hgrow (fun e => H8.out.2.2.2.2.2.2.2.1.2 e.symm); have bb10 := b10.at_ 0 (v := ptr p) rfl; have lb10 := b10.lt; clear b10; have HX := hide (note_mid (show Fr [] w8 _ by (repeat (first | exact Fr.refl _ _ | apply Fr.drew | apply Fr.drewN | apply Fr.alloc | (refine Fr.setCell ?_ (by first | (left; simp [Value.ownBlock]; done) | (right; simp; omega) | (right; simp; done)) _)))) hown hgrow hat p10); clear hown hgrow hat hlt p10))
        all_goals
          go_wp2_with fail
          go_meet
          exact HX.out
      case rest =>
        obtain ⟨gg, cap, hpx, hrx, hfx, hatx⟩ := hcut
        have hp8 := H8.out.1
        have hr8 := H8.out.2.1
        have hF8 := H8.out.2.2.2.1
        have hm8 := HH.out.2.2.2.2.2.2.2.2.1.fr0 hF8
        have hg8 := HH.out.1.fr0 hF8
        have hout : ∀ {b : Nat} {t : TypeId} {cs : Array Value}, Blk w8 b t cs → t ≠ 72 → t ≠ 37 → b ∉ p :: uv.ownBlock.toList := fun hb h1 h2 hm => by
          simp only [List.mem_cons, Option.mem_toList] at hm
          rcases hm with rfl | hm
          · exact hb.ne_ hp8 h1 rfl
          · exact row_blk_ne hr8 hb (Ne.symm h2) hm
        have hmo : m ∉ p :: uv.ownBlock.toList := fun hm => by
          simp only [List.mem_cons, Option.mem_toList] at hm
          rcases hm with rfl | hm
          · exact hm8.ne_blk hp8 rfl
          · obtain ⟨g9, c9, rfl, _⟩ : ∃ g9 c9, uv = .slice (some ⟨g9, 0, none⟩) s'.us.length c9 ∧ True := by
              rcases row_form hr8 with ⟨rfl, _⟩ | ⟨g9, c9, rfl, _⟩
              · simp [Value.ownBlock] at hm
              · exact ⟨_, _, rfl, trivial⟩
            obtain ⟨cur, hc, _⟩ := row_blk hr8
            exact hm8.ne_blk hc (Option.some.inj hm)
        have bx := (H8.out.2.2.2.2.1).fr hfx (hout H8.out.2.2.2.2.1 (by decide) (by decide))
        have kx := (H8.out.2.2.2.2.2.1).fr hfx (hout H8.out.2.2.2.2.2.1 (by decide) (by decide))
        have mx := hm8.fr hfx hmo
        have gx := hg8.fr hfx (hout hg8 (by decide) (by decide))
        obtain ⟨w12, hup, hm12, hf12⟩ := run_see (mx.fr0 (Fr.refl [] wc).drew) (ownK d.u)
        simp only [encK] at hup
        have b0 := bx.at_ 0 (v := ptr p) rfl
        have lbx := bx.lt
        have k0 := kx.at_ 0 rfl
        have k1 := kx.at_ 1 rfl
        have k2 := kx.at_ 2 rfl
        have lk := kx.lt
        have p2 := hpx.at_ 2 (v := .map (some m)) rfl
        have lpx := hpx.lt
        have hgm : g ≠ m := hm8.ne_blk hg8
        have hpm : p ≠ m := hm8.ne_blk hp8
        have g12 := (gx.drew).fr hf12 (by simpa using hgm)
        have c12 := g12.at_ 2 (v := .int .i64 size) rfl
        have z12 := g12.frozen 2
        have l12 := g12.lt
        obtain ⟨hs1, hs2, hs3⟩ := Hsz.out
        have s0 := hs2
        have s1 := hs3
        have hgp : g ≠ p := hg8.ne_ hp8 (by decide)
        have H12 := hide (And.intro hpx (And.intro hrx (And.intro hfx (And.intro hatx (And.intro hm12 (And.intro hf12 (And.intro g12 (And.intro hgm (And.intro hpm (And.intro hgp mx))))))))))
        clear hp8 hr8 hF8 hm8 hg8 hout hmo bx kx mx gx hpx hrx hfx hatx hm12 hf12 g12 hgm hpm hgp hs1 hs2 hs3 bb lb p1 lp a0 a1 a2 a3 a4 a5 a6 a7 a8 a9 a10 lu8
        go_wp2_with fail
        go_region
        all_goals
          go_wp2_with fail
          go_ret
          obtain ⟨hpx, hrx, hfx, hatx, hm12, hf12, g12, hgm, hpm, hgp, mx⟩ := H12.out
          refine .inr (.inr ⟨HS.out, Hsz.out.1, rfl, ?_⟩)
          rw [HS0.out.1, ← HS0.out.2]
          have hF8 := H8.out.2.2.2.1
          have hfin : Fr [g] w12 (w12.setCell ⟨g, 2, none⟩ (.int .i64 (size + 1))) := (Fr.refl _ _).setCell (.inl (by simp)) _
          have h8f : Fr (g :: p :: m :: uv.ownBlock.toList) w8 (w12.setCell ⟨g, 2, none⟩ (.int .i64 (size + 1))) :=
            (((hfx.mono (by simp only [List.mem_cons]; intro x hx; exact .inr (hx.imp id .inr))).drew).trans (hf12.mono (by simp))).trans (hfin.mono (by simp))
          have hggm : gg ≠ m := by
            rintro rfl
            obtain ⟨cur, hc, _⟩ := row_blk hrx
            exact mx.ne_blk hc rfl
          have hr12 := row_fr hrx.drew hf12 (fun k hk hm => hggm (by rw [List.mem_singleton] at hm; rw [← hm]; exact Option.some.inj hk))
          have hold : ∀ b ∈ g :: p :: m :: uv.ownBlock.toList, b < w.heap.size := by
            intro b hb
            simp only [List.mem_cons, Option.mem_toList] at hb
            rcases hb with rfl | rfl | rfl | hb
            · exact HH.out.1.lt
            · exact HH.out.2.2.2.2.2.2.1.lt
            · exact HH.out.2.2.2.2.2.2.2.2.1.lt
            · exact (row_lt HH.out.2.2.2.2.2.2.2.1 hb).1
          refine note_end (uv := uv) (d := ⟨d.u, A', c'⟩) HH.out.2.1 HH.out.1 HH.out.2.2.1 HH.out.2.2.2.1 HH.out.2.2.2.2.1 HH.out.2.2.2.2.2.1 q8 q6 q7 hB HH.out.2.2.2.2.2.2.2.2.2.1 HH.out.2.2.2.2.2.2.2.2.2.2.1 rfl
            ((hpx.drew.fr hf12 (by simpa using hpm)).far (by exact fun e => hgp e.symm) _) (row_far hr12 (row_blk_ne hr12 g12 (by decide)) _) (hm12.fr hfin (by simpa using Ne.symm hgm)) (by simpa using g12.set_ 2 (.int .i64 (size + 1)))
            ((hF8.any _).trans h8f) (hatx.imp id fun e => Nat.le_trans hF8.size e) ((H8.out.2.2.2.2.2.2.1.keep h8f (fun b hb hm => by have := hold b hm; omega)).imp fun b hb _ => Nat.le_of_lt hb)
            (fun b hb => ⟨Nat.le_of_lt (Hpb.out b hb).1, Nat.lt_of_lt_of_le (Hpb.out b hb).2 (by rw [← H8.out.2.2.2.2.2.2.2.1.1]; exact h8f.size)⟩) (fun hb => ?_)
          have h1 := Hpb.out gg hb
          rcases hatx with e | e
          · have := hold gg (by simp [e]); omega
          · have := H8.out.2.2.2.2.2.2.2.1.1; omega
end Go.Proofs.YtioeafjlbdpjoaaDoor

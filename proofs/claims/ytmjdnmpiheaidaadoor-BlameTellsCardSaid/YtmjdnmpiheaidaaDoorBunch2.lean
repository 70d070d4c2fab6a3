/- bunch: rows of twigs, as one error. -/
import Derived.Test.YtmjdnmpiheaidaaDoorBunch
namespace Go.Proofs.YtmjdnmpiheaidaaDoor
open Go.RowKit
theorem Reads.fr0 {w w' : World} {size n : Nat} {A : Option Addr} {xs : List Value} (h : Reads w w.heap.size size A n xs) (hf : Fr [] w w') : Reads w' w'.heap.size size A n xs :=
  ⟨h.1, fun hn => by
    obtain ⟨b, off, e, hb', hc⟩ := h.2 hn
    exact ⟨b, off, e, Nat.lt_of_lt_of_le hb' hf.size, fun j u hu => (hf.cell (p := ⟨b, off + j, none⟩) hb' (by simp)).trans (hc j u hu)⟩⟩
theorem run_append_none {P : Program} (w : World) (t ty e : TypeId) (i : TypeInfo) (ht : P.underlying t = some (.slice e)) (hi : P.info? e = some i) (N n k : Nat) (hk : n ≤ k) (A : Option Addr) (c : Nat) :
    (Builtin.append_ #[t, t] ty #[.slice (some ⟨N, 0, none⟩) n k, .slice A 0 c]).run P w = .ok (.slice (some ⟨N, 0, none⟩) n k) w := by
  cases A with
  | none => simp [Builtin.append_, run_underlying ht, sizeOf, typeInfo, hi, Builtin.lenOf, Builtin.firstCells, storeCells, hk]
  | some a =>
    have hl : (loadCells a 0).run P w = .ok #[] w := by simp [loadCells, loadCellsFrom]
    simp [Builtin.append_, run_underlying ht, sizeOf, typeInfo, hi, Builtin.lenOf, Builtin.firstCells, storeCells, hl, Result.andThen, hk]
def allC (l : List Rw) : List Ch := l.flatMap fun r => growC r.l
theorem allC_snoc {l : List Rw} {i : Nat} {x : Rw} (hx : l[i]? = some x) : allC (l.take (i + 1)) = allC (l.take i) ++ growC x.l := by
  unfold allC
  rw [List.take_add_one, hx, List.flatMap_append]; simp
theorem allC_len : ∀ (l : List Rw), (allC l).length ≤ l.length
  | [] => by simp [allC]
  | r :: l => by
    have h1 := grow_one r.l
    have h2 := allC_len l
    unfold allC at h2 ⊢
    rw [List.flatMap_cons, List.length_append, List.length_cons]; omega
theorem flatten_lenC : ∀ (css : List (List Ch)) (c : List Ch), (css ++ [c]).flatten = css.flatten ++ c := by simp
theorem EL.ones {w : World} {ad : Nat → Addr} {vs : List Value} {css : List (List Ch)} (h : EL w ad vs css) : ∀ v ∈ vs, v.oneCell' = true := by
  intro v hv
  obtain ⟨i, hi⟩ := List.getElem?_of_mem hv
  have hlt := (List.getElem?_eq_some_iff.1 hi).1
  exact (h.2 i v (css[i]'(by rw [← h.1]; exact hlt)) hi (List.getElem?_eq_getElem (by rw [← h.1]; exact hlt))).one
theorem ChainS.frE {w w' : World} {ad : Nat → Addr} {k : Nat} {v : Value} {ws : List ByteArray} {T S : List Nat} (h : ChainS w ad k v ws T) (hf : Fr S w w') (hS : ∀ b ∈ S, ∃ cs, Blk w b 26 cs) : ChainS w' ad k v ws T := by
  induction h with
  | sent => exact .sent
  | blame b s v ws T hb _ ih =>
    refine .blame b s v ws T (hb.fr hf fun hm => ?_) ih
    obtain ⟨cs, h2⟩ := hS b hm
    exact hb.ne_ h2 (by decide) rfl
theorem HC.frE {w w' : World} {ad : Nat → Addr} {v : Value} {c : Ch} {S : List Nat} (h : HC w ad v c) (hf : Fr S w w') (hS : ∀ b ∈ S, ∃ cs, Blk w b 26 cs) : HC w' ad v c := ⟨h.1, h.2.1, h.2.2.elim fun T hT => ⟨T, hT.frE hf hS⟩⟩
theorem EV.frE {w w' : World} {ad : Nat → Addr} {v : Value} {cs : List Ch} {S : List Nat} (h : EV w ad v cs) (h1 : cs.length ≤ 1) (hf : Fr S w w') (hS : ∀ b ∈ S, ∃ cs, Blk w b 26 cs) : EV w' ad v cs := by
  rcases h with h | ⟨c, h2, h3⟩ | ⟨h2, _⟩
  · exact .inl h
  · exact .inr (.inl ⟨c, h2, h3.frE hf hS⟩)
  · omega
theorem EL.frE {w w' : World} {ad : Nat → Addr} {vs : List Value} {css : List (List Ch)} {S : List Nat} (h : EL w ad vs css) (h1 : ∀ c ∈ css, c.length ≤ 1) (hf : Fr S w w') (hS : ∀ b ∈ S, ∃ cs, Blk w b 26 cs) : EL w' ad vs css :=
  ⟨h.1, fun i v c hv hc => (h.2 i v c hv hc).frE (h1 c (List.mem_of_getElem? hc)) hf hS⟩
theorem own_errs {w : World} {B n : Nat} {v : Value} {vs : List Value} (h : w.ownsRow B 26 1 v n vs) : ∀ b ∈ v.ownBlock.toList, ∃ cs, Blk w b 26 cs := by
  intro b hb
  rcases row_form h with ⟨rfl, _⟩ | ⟨g, cap, rfl, _⟩
  · simp [Value.ownBlock] at hb
  · obtain ⟨cur, hc, _⟩ := row_blk h
    have : b = g := by simpa [Value.ownBlock] using hb
    subst this
    exact ⟨cur, hc⟩
/-- what bunch holds between two rows -/
def BI (ad : Nat → Addr) (w wr : World) (s5 s6 : Value) (goal : List Ch) (q : Nat) : Prop :=
  ∃ (wX : World) (cs : List Ch) (vs : List Value) (css : List (List Ch)), Fr [] w wX ∧ Fr [] wX wr ∧ EV wX ad s5 cs ∧ wr.ownsRow wX.heap.size 26 1 s6 css.length vs ∧ EL wr ad vs css ∧ (∀ c ∈ css, c.length ≤ 1) ∧ cs ++ css.flatten = goal ∧ css.length < q
/-- an append of an error to the row -/
theorem BI.push {ad : Nat → Addr} {w wX w2 aw : World} {s6 v s6' : Value} {cs gc goal : List Ch} {vs : List Value} {css : List (List Ch)} (hwX : Fr [] w wX) (hX2 : Fr [] wX w2) (hrow : w2.ownsRow wX.heap.size 26 1 s6 css.length vs) (hel : EL w2 ad vs css) (h1 : ∀ c ∈ css, c.length ≤ 1)
    (hv : EV w2 ad v gc) (hg : gc.length ≤ 1) (hsum : cs ++ css.flatten = goal) (hgrow : (w2.alloc (.cells #[v] 26)).grownBy aw s6.ownBlock) (hown : aw.ownsRow wX.heap.size 26 1 s6' (css.length + 1) (vs ++ [v])) :
    Fr [] wX aw ∧ EL aw ad (vs ++ [v]) (css ++ [gc]) ∧ (∀ c ∈ css ++ [gc], c.length ≤ 1) ∧ cs ++ (css ++ [gc]).flatten = goal ++ gc ∧ aw.ownsRow wX.heap.size 26 1 s6' (css ++ [gc]).length (vs ++ [v]) := by
  have hf : Fr [] wX aw := (hX2.alloc _).grown hgrow fun k hk => .inr (row_lt hrow hk).2
  have hf2 : Fr s6.ownBlock.toList w2 aw := ((Fr.refl _ w2).alloc _).grown hgrow fun k hk => .inl (by simp [hk])
  refine ⟨hf, (hel.frE h1 hf2 (own_errs hrow)).app (EL.one (hv.frE hg hf2 (own_errs hrow))), ?_, ?_, ?_⟩
  · intro c hc
    rcases List.mem_append.mp hc with h | h
    · exact h1 c h
    · rw [List.mem_singleton.mp h]; exact hg
  · rw [flatten_lenC, ← List.append_assoc, hsum]
  · rw [List.length_append]; exact hown
theorem BI.all {ad : Nat → Addr} {wX aw0 aw1 : World} {E v' : Value} {cs goal : List Ch} {us : List Value} {dss : List (List Ch)} {dn : Nat} (HX : EV wX ad E cs) (hX0 : Fr [] wX aw0) (hel : EL aw0 ad us dss) (hsum : cs ++ dss.flatten = goal) (hgl : goal.length ≤ 1000) (hdl : dss.length = dn) (hdn : dn ≤ 1000)
    (h01 : Fr [] aw0 aw1) (hown : aw1.ownsRow wX.heap.size 26 1 v' (1 + dn) ([E] ++ us)) : Calls Tryd.prog 19 #[v'] aw1 fun e w' => ∃ x, e = .returned x ∧ EV w' ad x goal ∧ Fr [] wX w' := by
  have hel' := (EL.one (HX.fr0 (hX0.trans h01))).app (hel.fr0 h01)
  have hn : ([cs] ++ dss).length = 1 + dn := by rw [List.length_append, hdl]; rfl
  refine (all_ev (B := wX.heap.size) (v := v') (by rw [hn]; exact hown) hel' (by rw [hn]; omega) (by rw [List.flatten_append, List.flatten_singleton, hsum]; omega)).mono ?_
  rintro e w' ⟨x, rfl, hx, hf⟩
  refine ⟨x, rfl, ?_, (hX0.trans h01).trans hf⟩
  rwa [List.flatten_append, List.flatten_singleton, hsum] at hx
set_option maxRecDepth 100000 in
set_option maxHeartbeats 8000000 in
theorem bunch_calls {B : Nat} {w : World} {ad : Nat → Addr} (hs : Sents All18 B w ad) {A : Option Addr} {n c : Nat} {l : List Rw} (hr : Reads w w.heap.size 1 A n (l.flatMap encR)) (hl : l.length = n) (hn : n ≤ 20) (hok : ∀ x ∈ l, okR w w.heap.size x) (h12 : ∀ x ∈ l, x.n ≤ 12) (n0 : Int) :
    Calls Tryd.prog 10 #[.slice A n c, .int .i64 n0] w fun e w' => ∃ v, e = .returned v ∧ EV w' ad v (allC l) ∧ Fr [] w w' := by
  obtain ⟨i0, hi0, hz0, hs0, hb0⟩ := info_parts infoErr
  obtain ⟨i1, hi1, hz1, hs1, hb1⟩ := info_parts infoErr
  have H0 := hide hs
  have HR := hide (And.intro hr (And.intro hl (And.intro hok h12)))
  have happ := hide (fun W ty N A c => run_append_none (P := Tryd.prog) W 59 ty 26 i0 Tryd.underlying59 hi0 N 1 1 (Nat.le_refl _) A c)
  clear hs hr hl hok h12
  obtain ⟨u, hu, -⟩ := u64_nat n0
  have hp : u % 4 < 4 := Nat.mod_lt _ (by omega)
  have nz : (4 : Int) ≠ 0 := by omega
  have ef : (u : Int) % 4 = ((u % 4 : Nat) : Int) := by omega
  generalize u % 4 = p at *
  go_enter Tryd.func10, Tryd.ntmps10
  go_upto_region 3 with (fail)
  obtain ⟨q, hq⟩ : ∃ q : Nat, q = p + 1 := ⟨_, rfl⟩
  rw [show (1 : Int) + (p : Int) = (q : Int) by omega]
  have q1 : 1 ≤ q := by omega
  have q2 : q ≤ 4 := by omega
  clear hq hu ef hp nz
  go_wp2_with fail
  go_loopw [5, 6, 7] (fun s5 s6 s7 wr => ∃ i : Nat, i ≤ n ∧ s7 = .int .i64 i ∧ BI ad w wr s5 s6 (allC (l.take i)) q) (fun _ _ s7 _ => n - (intOf s7).toNat)
  case atStart => exact ⟨0, by omega, rfl, w, [], [], [], Fr.refl _ _, (Fr.refl _ _).alloc _, .inl ⟨rfl, rfl⟩, row_mk (Blk.new w _ _) (Nat.le_refl _) (Nat.le_refl _) (by simp [maxLen]) rfl rfl, EL.nil, by simp, rfl, q1⟩
  case round =>
    obtain ⟨i, hi, rfl, wX, cs, vs, css, hwX, hfX, hev, hrow, hel, h1, hsum, hq⟩ := hrel
    have hf := hwX.trans hfX
    have hall : (allC (l.take i)).length ≤ i := by
      have := allC_len (l.take i)
      rw [List.length_take] at this; omega
    have hlen2 : cs.length + css.flatten.length ≤ 20 := by rw [← List.length_append, hsum]; omega
    have i0' : (0 : Int) ≤ (i : Int) := by omega
    have hszX := hwX.size
    have hszr := hfX.size
    clear hall
    by_cases hin : i < n
    · have i1' : (i : Int) < (n : Int) := by omega
      obtain ⟨x, hx⟩ : ∃ x, l[i]? = some x := ⟨l[i]'(by have := HR.out.2.1; omega), by simp⟩
      obtain ⟨b, off, rfl, hb, hcl⟩ := HR.out.1.at_ encR_len hx HR.out.2.1
      have a0 := (hf.cell (p := ⟨b, off + (i * 1 + 0), none⟩) hb (by simp)).trans (hcl 0 (.slice x.A x.n x.c) rfl)
      rw [Nat.mul_one, Nat.add_zero] at a0
      obtain ⟨xl, xm, hxr⟩ := HR.out.2.2.1 x (List.mem_of_getElem? hx)
      have x12 := HR.out.2.2.2 x (List.mem_of_getElem? hx)
      have HG := hide (grown_calls (c := x.c) (H0.out.fr0 hf) (hxr.fr0 hf) xl x12)
      have Hsn := hide (allC_snoc hx)
      have hg1 := grow_one x.l
      have HI := hide (And.intro hwX (And.intro hfX (And.intro hev (And.intro hrow (And.intro hel (And.intro h1 hsum))))))
      have hm : css.length < 4 := by omega
      clear hcl hx xl xm hxr x12 hev hrow hel hsum hf h1 hwX hfX
      generalize hgc : growC x.l = gc at *
      clear hgc
      go_wp2_with fail
      refine HG.out.mono ?_
      rintro e w2 ⟨v, rfl, hv, hf2⟩
      have Hrow := hide (row_fr HI.out.2.2.2.1 hf2 (by simp))
      have HV : Hid (EV w2 ad v gc) := hide hv
      have Hf2 := hide hf2
      have HX := hide HI.out.2.2.1
      have hsz2 := hf2.size
      have Hpush := hide (fun (aw : World) (s6' : Value) => BI.push (aw := aw) (s6' := s6') HI.out.1 (HI.out.2.1.trans hf2) Hrow.out (HI.out.2.2.2.2.1.fr0 hf2) HI.out.2.2.2.2.2.1 hv hg1 HI.out.2.2.2.2.2.2)
      clear hf2 HG
      have hew := HX.out
      rcases hew.form with ⟨rfl, hc1⟩ | ⟨hc1, te, ae, rfl⟩
      all_goals rcases hv.form with ⟨rfl, hc0⟩ | ⟨hc0, t, a, rfl⟩
      all_goals
        clear hv hc0 hew hc1
        rcases Nat.lt_or_ge (css.length + 1) q with hmq | hmq
        · have hmq' : ((css.length : Int) + 1 == (q : Int)) = false := by simp; omega
          have Hmq := hide hmq
          clear hmq
          go_wp2_with (first | at_builtin; refine wpList_append_lies _ rfl _ _ _ rfl wX.heap.size 26 i0 _ 1 16 Tryd.underlying59 hi0 hz0 hs0 hb0 rfl (by omega) (u6) (css.length) (vs) rfl ((Hrow.out.alloc _)) ⟨w2.heap.size, 0, none⟩ 1 1 [Value.nilIface] rfl rfl (World.news_of_block (cs := #[Value.nilIface]) (t := 26) (fr := (0, 0)) (Blk.new_at _ _ _ _ (by simp))) (by simp [Value.oneCell']) (by omega) (by unfold maxLen; omega) (by omega) (by simp; omega) (w2.heap.size + 1) (by simp) ?_; intro ag0 ac0 aw0 aown0 agrow0 aat0 alt0 | at_builtin; refine wpList_append_lies _ rfl _ _ _ rfl wX.heap.size 26 i0 _ 1 16 Tryd.underlying59 hi0 hz0 hs0 hb0 rfl (by omega) (u6) (css.length) (vs) rfl ((Hrow.out.alloc _)) ⟨w2.heap.size, 0, none⟩ 1 1 [Value.iface t (.pointer (some a))] rfl rfl (World.news_of_block (cs := #[Value.iface t (.pointer (some a))]) (t := 26) (fr := (0, 0)) (Blk.new_at _ _ _ _ (by simp))) (by simp [Value.oneCell']) (by omega) (by unfold maxLen; omega) (by omega) (by simp; omega) (w2.heap.size + 1) (by simp) ?_; intro ag0 ac0 aw0 aown0 agrow0 aat0 alt0)
          obtain ⟨hf3, hel3, h13, hsum3, hown3⟩ := Hpush.out aw0 _ agrow0 aown0
          go_roundw
          case rel =>
            refine ⟨i + 1, by omega, by go_num, wX, cs, _, css ++ [gc], HI.out.1, hf3, HX.out, hown3, hel3, h13, ?_, ?_⟩
            · rw [hsum3, Hsn.out]
            · rw [List.length_append]; exact Hmq.out
          case measure => simp [intOf]; omega
        · have hmq' : ((css.length : Int) + 1 == (q : Int)) = true := by simp; omega
          clear hmq
          go_upto_region 9 with (first | at_builtin; refine wpList_append_lies _ rfl _ _ _ rfl wX.heap.size 26 i0 _ 1 16 Tryd.underlying59 hi0 hz0 hs0 hb0 rfl (by omega) (u6) (css.length) (vs) rfl ((Hrow.out.alloc _)) ⟨w2.heap.size, 0, none⟩ 1 1 [Value.nilIface] rfl rfl (World.news_of_block (cs := #[Value.nilIface]) (t := 26) (fr := (0, 0)) (Blk.new_at _ _ _ _ (by simp))) (by simp [Value.oneCell']) (by omega) (by unfold maxLen; omega) (by omega) (by simp; omega) (w2.heap.size + 1) (by simp) ?_; intro ag0 ac0 aw0 aown0 agrow0 aat0 alt0 | at_builtin; refine wpList_append_lies _ rfl _ _ _ rfl wX.heap.size 26 i0 _ 1 16 Tryd.underlying59 hi0 hz0 hs0 hb0 rfl (by omega) (u6) (css.length) (vs) rfl ((Hrow.out.alloc _)) ⟨w2.heap.size, 0, none⟩ 1 1 [Value.iface t (.pointer (some a))] rfl rfl (World.news_of_block (cs := #[Value.iface t (.pointer (some a))]) (t := 26) (fr := (0, 0)) (Blk.new_at _ _ _ _ (by simp))) (by simp [Value.oneCell']) (by omega) (by unfold maxLen; omega) (by omega) (by simp; omega) (w2.heap.size + 1) (by simp) ?_; intro ag0 ac0 aw0 aown0 agrow0 aat0 alt0)
          obtain ⟨hf3, hel3, h13, hsum3, hown3⟩ := Hpush.out aw0 _ agrow0 aown0
          obtain ⟨us, hus, hel4, hown4⟩ : ∃ us, us.length = css.length + 1 ∧ EL aw0 ad us (css ++ [gc]) ∧ aw0.ownsRow wX.heap.size 26 1 (.slice (some ⟨ag0, 0, none⟩) (css.length + 1) ac0) (css.length + 1) us := ⟨_, by rw [hel3.1, List.length_append]; rfl, hel3, aown0⟩
          have hN := hide (fun o => row_newsE (row_fr hown4 ((Fr.refl [] aw0).alloc o) (by simp)))
          have Hone := hide hel4.ones
          have HP := hide (And.intro hf3 (And.intro hel4 hsum3))
          have hsz3 := hf3.size
          have Hul := hide hus
          clear hus hf3 hel3 h13 hsum3 hown3 aown0 agrow0 aat0 alt0 hel4 hown4
          go_wp2_with (first | at_builtin; refine wpList_append_lies _ rfl _ _ _ rfl wX.heap.size 26 i1 _ 1 16 Tryd.underlying59 hi1 hz1 hs1 hb1 rfl (by omega) (.slice (some ⟨aw0.heap.size, 0, none⟩) 1 1) (1) ([Value.nilIface]) rfl ((row_mk (Blk.new aw0 _ _) (by omega) (Nat.le_refl _) (by simp [maxLen]) rfl rfl)) (⟨ag0, 0, none⟩) (css.length + 1) (ac0) (us) rfl (by have := Hul.out; omega) ((hN.out _)) (Hone.out) (by omega) (by unfold maxLen; omega) (by omega) (by first | omega | (simp; done) | (simp; omega)) (aw0.heap.size + 1) (by simp) ?_; intro ag1 ac1 aw1 aown1 agrow1 aat1 alt1 | at_builtin; refine wpList_append_lies _ rfl _ _ _ rfl wX.heap.size 26 i1 _ 1 16 Tryd.underlying59 hi1 hz1 hs1 hb1 rfl (by omega) (.slice (some ⟨aw0.heap.size, 0, none⟩) 1 1) (1) ([Value.iface te (.pointer (some ae))]) rfl ((row_mk (Blk.new aw0 _ _) (by omega) (Nat.le_refl _) (by simp [maxLen]) rfl rfl)) (⟨ag0, 0, none⟩) (css.length + 1) (ac0) (us) rfl (by have := Hul.out; omega) ((hN.out _)) (Hone.out) (by omega) (by unfold maxLen; omega) (by omega) (by first | omega | (simp; done) | (simp; omega)) (aw0.heap.size + 1) (by simp) ?_; intro ag1 ac1 aw1 aown1 agrow1 aat1 alt1)
          have hf01 : Fr [] aw0 aw1 := ((Fr.refl [] aw0).alloc (.cells #[_] 26)).grown agrow1 (fun k hk => .inr (by simp [Value.ownBlock] at hk; omega))
          have HA := hide (BI.all HX.out HP.out.1 HP.out.2.1 HP.out.2.2 (by rw [← HP.out.2.2, List.length_append, flatten_lenC, List.length_append]; omega) (by rw [List.length_append]; rfl) (by omega) hf01 aown1)
          clear hf01 agrow1 aown1 aat1 alt1
          go_wp2_with fail
          refine HA.out.mono ?_
          rintro e w4 ⟨x4, rfl, hx4, hf4⟩
          have H4 := hide (And.intro hx4 (HI.out.1.trans hf4))
          clear hx4 hf4
          go_wp2_with fail
          go_roundw
          case rel =>
            refine ⟨i + 1, by omega, by go_num, w4, _, [], [], H4.out.2, (Fr.refl _ _).alloc _, H4.out.1, row_mk (Blk.new w4 _ _) (Nat.le_refl _) (Nat.le_refl _) (by simp [maxLen]) rfl rfl, EL.nil, by simp, ?_, q1⟩
            rw [Hsn.out, List.flatten_nil, List.append_nil]
          case measure => simp [intOf]; omega
    · obtain rfl : i = n := by omega
      rw [List.take_of_length_le (by rw [HR.out.2.1]; omega)] at hsum
      have hnl : ¬ ((i : Int) < (i : Int)) := by omega
      have HX := hide hev
      have hew := hev
      have hcl : css.length ≤ 4 := by omega
      have hwXs := hwX
      rcases row_form hrow with ⟨rfl, h0, _⟩ | ⟨g, cap, rfl, hbg, hlg, hcap, hmx⟩
      · obtain rfl : css = [] := List.eq_nil_of_length_eq_zero h0
        have HP := hide (And.intro hwX (And.intro hfX hsum))
        have hz := fun W ty N => happ.out W ty N none 0
        have H7 := hide hlen2
        clear hwX hfX hev hrow hel h1 hsum hlen2
        rcases hew.form with ⟨rfl, hc1⟩ | ⟨hc1, te, ae, rfl⟩
        all_goals
          clear hew hc1
          go_wp2_with fail
          refine (BI.all (us := []) (dss := []) (dn := 0) HX.out HP.out.2.1 EL.nil HP.out.2.2 (by have := H7.out; have h := HP.out.2.2; rw [← h, List.length_append]; omega) rfl (by omega) ((Fr.refl _ _).alloc _) (row_mk (Blk.new _ _ _) hszr (Nat.le_refl _) (by simp [maxLen]) rfl rfl)).mono ?_
          rintro e w4 ⟨x4, rfl, hx4, hf4⟩
          have H4 := hide (And.intro hx4 (HP.out.1.trans hf4))
          clear hx4 hf4
          go_wp2_with fail
          go_ret
          exact ⟨_, rfl, H4.out.1, H4.out.2⟩
      · rcases Nat.eq_zero_or_pos css.length with h0 | h0
        · obtain rfl : css = [] := List.eq_nil_of_length_eq_zero h0
          have HP := hide (And.intro hwX (And.intro hfX hsum))
          have hz := fun W ty N => happ.out W ty N (some ⟨g, 0, none⟩) cap
          have H7 := hide hlen2
          simp only [List.length_nil]
          clear hwX hfX hev hrow hel h1 hsum hlen2
          rcases hew.form with ⟨rfl, hc1⟩ | ⟨hc1, te, ae, rfl⟩
          all_goals
            clear hew hc1
            go_wp2_with fail
            refine (BI.all (us := []) (dss := []) (dn := 0) HX.out HP.out.2.1 EL.nil HP.out.2.2 (by have := H7.out; have h := HP.out.2.2; rw [← h, List.length_append]; omega) rfl (by omega) ((Fr.refl _ _).alloc _) (row_mk (Blk.new _ _ _) hszr (Nat.le_refl _) (by simp [maxLen]) rfl rfl)).mono ?_
            rintro e w4 ⟨x4, rfl, hx4, hf4⟩
            have H4 := hide (And.intro hx4 (HP.out.1.trans hf4))
            clear hx4 hf4
            go_wp2_with fail
            go_ret
            exact ⟨_, rfl, H4.out.1, H4.out.2⟩
        · have HP := hide (And.intro hwX (And.intro hfX (And.intro hsum hel)))
          have hN := hide (fun o => row_newsE (row_fr hrow ((Fr.refl [] wr).alloc o) (by simp)))
          have Hone := hide hel.ones
          have Hul := hide hel.1
          have hsum2 : (allC l).length ≤ 20 := by rw [← hsum, List.length_append]; omega
          clear hwX hfX hev hrow hel h1 hsum hlen2
          rcases hew.form with ⟨rfl, hc1⟩ | ⟨hc1, te, ae, rfl⟩
          all_goals
            clear hew hc1
            go_wp2_with (first | at_builtin; refine wpList_append_lies _ rfl _ _ _ rfl wX.heap.size 26 i1 _ 1 16 Tryd.underlying59 hi1 hz1 hs1 hb1 rfl (by omega) (.slice (some ⟨wr.heap.size, 0, none⟩) 1 1) (1) ([Value.nilIface]) rfl ((row_mk (Blk.new wr _ _) (by omega) (Nat.le_refl _) (by simp [maxLen]) rfl rfl)) (⟨g, 0, none⟩) (css.length) (cap) (vs) rfl (by have := Hul.out; omega) ((hN.out _)) (Hone.out) (by omega) (by unfold maxLen; omega) (by omega) (by first | omega | (simp; done) | (simp; omega)) (wr.heap.size + 1) (by simp) ?_; intro ag1 ac1 aw1 aown1 agrow1 aat1 alt1 | at_builtin; refine wpList_append_lies _ rfl _ _ _ rfl wX.heap.size 26 i1 _ 1 16 Tryd.underlying59 hi1 hz1 hs1 hb1 rfl (by omega) (.slice (some ⟨wr.heap.size, 0, none⟩) 1 1) (1) ([Value.iface te (.pointer (some ae))]) rfl ((row_mk (Blk.new wr _ _) (by omega) (Nat.le_refl _) (by simp [maxLen]) rfl rfl)) (⟨g, 0, none⟩) (css.length) (cap) (vs) rfl (by have := Hul.out; omega) ((hN.out _)) (Hone.out) (by omega) (by unfold maxLen; omega) (by omega) (by first | omega | (simp; done) | (simp; omega)) (wr.heap.size + 1) (by simp) ?_; intro ag1 ac1 aw1 aown1 agrow1 aat1 alt1)
            have hf01 : Fr [] wr aw1 := ((Fr.refl [] wr).alloc (.cells #[_] 26)).grown agrow1 (fun k hk => .inr (by simp [Value.ownBlock] at hk; omega))
            have HA := hide (BI.all HX.out HP.out.2.1 HP.out.2.2.2 HP.out.2.2.1 (by omega) rfl (by omega) hf01 aown1)
            clear hf01 agrow1 aown1 aat1 alt1
            refine HA.out.mono ?_
            rintro e w4 ⟨x4, rfl, hx4, hf4⟩
            have H4 := hide (And.intro hx4 (HP.out.1.trans hf4))
            clear hx4 hf4
            go_wp2_with fail
            go_ret
            exact ⟨_, rfl, H4.out.1, H4.out.2⟩
end Go.Proofs.YtmjdnmpiheaidaaDoor

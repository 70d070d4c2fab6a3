/- The frame of every row of this seat: arguments opened, the listed sentinels, what a call that answers true and leaves old memory alone gives. -/
import Derived.Test.YtioeafjlbdpjoaaDoorErr
import Derived.Test.YtioeafjlbdpjoaaDoorRows
import Derived.ProofKit
import Derived.OpenShut
import Derived.LaidMore
import Derived.Stop.Joined
import Derived.Stop.LaidTwo
import Derived.Deep.Slices
import Derived.Carry
import Derived.Deep.DeepHandedRow
import Derived.Deep.DeepWitnessRowRef
namespace Go.Proofs.YtioeafjlbdpjoaaDoor
open Go.ChangeShapes Go.WideShapes Go.ChangeAt Go.RowKit Go.Deep

theorem own : ownKnob Tryd.prog.godebug = none := by kernel_rfl
theorem laidOut : laidOutB Tryd.prog = true := by kernel_rfl
theorem cellsES : Tryd.prog.cellsOf 142 = 1 := by kernel_rfl
theorem cellsString : Tryd.prog.cellsOf 9 = 1 := by kernel_rfl
theorem starES : "*" ++ "errors.errorString" = "*errors.errorString" := by decide
theorem rowES (u : TypeId) (h : Tryd.prog.typeName? 3 u = some "*errors.errorString") : u = 117 :=
  typeName_ptr_named (nm := "errors.errorString") (by rw [starES]; kernel_rfl) (by kernel_rfl) (by decide) u (by rw [starES]; exact h)

/-! ### The listed sentinels -/
abbrev sent (x : String × List UInt8) : String × DataW Unit := (x.1, .iface "*errors.errorString" (.ptr (.agg [.lit (.string x.2)])))
theorem row_one (a : Addr) : MemPlace.row a 1 = [MemPlace.cell a.block a.off] := by simp [MemPlace.row]
set_option maxRecDepth 100000 in
theorem laid_ads {W : World} : ∀ (l : List (String × List UInt8)) (ps : List MemPlace), (∀ x ∈ l, ∃ g, Tryd.prog.globalNamed x.1 = some g ∧ (Tryd.prog.globals[g]?).map (·.type) = some 26) → DataW.LaidVars Tryd.prog W (l.map sent) ps →
    (∀ b off, MemPlace.cell b off ∈ ps → (∃ c t, W.heap[b]? = some (.cells c t (0, 0))) ∧ ∀ u v, W.cell? ⟨b, off, none⟩ = some (.iface u v) → Value.okWide Tryd.prog W .any 0 u v) →
    ∃ ads : List Addr, ads.length = l.length ∧ (ads.map fun a => MemPlace.cell a.block a.off).Sublist ps ∧
      ∀ (i : Nat) (x : String × List UInt8) (a : Addr), l[i]? = some x → ads[i]? = some a → ∃ g, Tryd.prog.globalNamed x.1 = some g ∧ W.cell? ⟨g, 0, none⟩ = some (sv a) ∧ (W.cell? a).isSome = true ∧ ∃ c t, W.heap[a.block]? = some (.cells c t (0, 0))
  | [], ps, _, h, _ => ⟨[], rfl, by simp, by simp⟩
  | x :: l, ps, hg, h, hrows => by
    obtain ⟨g, t, cs, fuel, p, q, hg0, ht0, hv0, hd0, hq, rfl⟩ := h
    obtain ⟨g', hg', ht'⟩ := hg x (by simp)
    obtain rfl := Option.some.inj (hg'.symm.trans hg0)
    obtain rfl := Option.some.inj (ht'.symm.trans ht0)
    obtain ⟨l0⟩ := cs
    have ok0 : ∀ u v, l0 = [.iface u v] → Value.okWide Tryd.prog W .any 0 u v := fun u v e => by
      subst e
      exact (hrows g' 0 (by simp [MemPlace.row])).2 u v (by simpa using World.var?_cell hg0 hv0 0)
    obtain ⟨a, s, rfl, hc, hs, hz, rfl⟩ := errorString_of_trod Tryd.underlying26 rowES Tryd.underlying117 Tryd.underlying142 rfl rfl Tryd.underlying9 cellsES cellsString hd0 ok0
    obtain ⟨ads, hlen, hsub, hall⟩ := laid_ads l q (fun y hy => hg y (by simp [hy])) hq (fun b off hm => hrows b off (by simp [hm]))
    refine ⟨a :: ads, by simp [hlen], ?_, ?_⟩
    · rw [row_one, List.map_cons, List.append_assoc]
      exact List.Sublist.trans (List.Sublist.cons_cons _ hsub) (List.sublist_append_right _ _)
    · intro i y b hy hb
      cases i with
      | zero =>
        simp only [List.getElem?_cons_zero, Option.some.injEq] at hy hb
        subst hy; subst hb
        refine ⟨g', hg0, by simpa using World.var?_cell hg0 hv0 0, by rw [hc]; rfl, ?_⟩
        exact (hrows a.block a.off (by rw [row_one]; simp)).1
      | succ i => exact hall i y b (by simpa using hy) (by simpa using hb)

/-- the numbers K, listed in this order under these names, are sentinels as the contracts want them -/
theorem sents_of_laid {W : World} (K : List Nat) (l : List (String × List UInt8)) (hl : l.length = K.length) (hn : K.Nodup) (hg : ∀ (i : Nat) (x : String × List UInt8) (k : Nat), l[i]? = some x → K[i]? = some k → Tryd.prog.globalNamed x.1 = some (gOf k))
    (ht : ∀ x ∈ l, ∃ g, Tryd.prog.globalNamed x.1 = some g ∧ (Tryd.prog.globals[g]?).map (·.type) = some 26) (h : laidMet Tryd.prog (l.map sent) W) : ∃ ad, Sents K W.heap.size W ad := by
  obtain ⟨ps, hv, hnd, hrows⟩ := h
  obtain ⟨ads, hlen, hsub, hall⟩ := laid_ads l ps ht hv hrows
  have hnd2 : (ads.map fun a => MemPlace.cell a.block a.off).Nodup := List.Nodup.sublist hsub hnd
  have key : ∀ k ∈ K, ∃ (i : Nat) (x : String × List UInt8) (a : Addr), K[i]? = some k ∧ K.idxOf k = i ∧ l[i]? = some x ∧ ads[i]? = some a := by
    intro k hk
    have hi := List.idxOf_lt_length_of_mem hk
    refine ⟨K.idxOf k, l[K.idxOf k]'(by omega), ads[K.idxOf k]'(by omega), ?_, rfl, by simp, by simp⟩
    rw [List.getElem?_eq_getElem hi, List.getElem_idxOf]
  refine ⟨fun k => ads.getD (K.idxOf k) default, Nat.le_refl _, ?_, ?_, ?_, ?_, ?_⟩
  · intro k hk
    obtain ⟨i, x, a, e1, e2, e3, e4⟩ := key k hk
    obtain ⟨g, h1, h2, _⟩ := hall i x a e3 e4
    obtain rfl := Option.some.inj (h1.symm.trans (hg i x k e3 e1))
    exact World.block_lt_of_cell? W _ h2
  · intro k hk
    obtain ⟨i, x, a, e1, e2, e3, e4⟩ := key k hk
    obtain ⟨g, h1, h2, _⟩ := hall i x a e3 e4
    obtain rfl := Option.some.inj (h1.symm.trans (hg i x k e3 e1))
    rw [e2, List.getD_eq_getElem?_getD, e4]
    exact h2
  · intro k hk
    obtain ⟨i, x, a, e1, e2, e3, e4⟩ := key k hk
    obtain ⟨g, h1, h2, h3, c, t, h4⟩ := hall i x a e3 e4
    rw [e2, List.getD_eq_getElem?_getD, e4]
    exact Blk.lt (t := t) (cs := c) h4
  · intro k hk
    obtain ⟨i, x, a, e1, e2, e3, e4⟩ := key k hk
    obtain ⟨g, h1, h2, h3, c, t, h4⟩ := hall i x a e3 e4
    rw [e2, List.getD_eq_getElem?_getD, e4]
    exact ⟨c, t, h4⟩
  · intro j hj k hk e
    obtain ⟨i, x, a, e1, e2, e3, e4⟩ := key j hj
    obtain ⟨i', x', a', f1, f2, f3, f4⟩ := key k hk
    rw [e2, f2, List.getD_eq_getElem?_getD, List.getD_eq_getElem?_getD, e4, f4] at e
    simp only [Option.getD_some] at e
    subst e
    have h1 := List.getElem?_map (f := fun a : Addr => MemPlace.cell a.block a.off) (l := ads) (i := i)
    have h2 := List.getElem?_map (f := fun a : Addr => MemPlace.cell a.block a.off) (l := ads) (i := i')
    rw [e4] at h1
    rw [f4] at h2
    have hi : i < (ads.map fun a => MemPlace.cell a.block a.off).length := by
      rw [List.length_map]; exact (List.getElem?_eq_some_iff.1 e4).1
    have : i = i' := (List.getElem?_inj hi hnd2).1 (h1.trans h2.symm)
    subst this
    exact Option.some.inj (e1.symm.trans f1)

/-! ### Arguments -/
def Reads (w : World) (B size : Nat) (A : Option Addr) (n : Nat) (xs : List Value) : Prop :=
  xs.length = n * size ∧ (0 < n → ∃ b off, A = some ⟨b, off, none⟩ ∧ b < B ∧ ∀ j u, xs[j]? = some u → w.cell? ⟨b, off + j, none⟩ = some u)
theorem block_of_add (a : Addr) (n : Nat) : (a.add n).block = a.block := by unfold Addr.add; split <;> rfl
theorem Reads.below {w w' : World} {B size n : Nat} {A : Option Addr} {xs : List Value} (h : Reads w B size A n xs) (hb : Below B w w') : Reads w' B size A n xs :=
  ⟨h.1, fun hn => by
    obtain ⟨b, off, e, hb', hc⟩ := h.2 hn
    exact ⟨b, off, e, hb', fun j u hu => (hb.cell (p := ⟨b, off + j, none⟩) hb').trans (hc j u hu)⟩⟩
/-- element k's cell j -/
theorem Reads.at_ {α : Type} {f : α → List Value} {w : World} {B size n : Nat} {A : Option Addr} {l : List α} (h : Reads w B size A n (l.flatMap f)) (hf : ∀ x, (f x).length = size) {k : Nat} {x : α} (hx : l[k]? = some x) (hl : l.length = n) :
    ∃ b off, A = some ⟨b, off, none⟩ ∧ b < B ∧ ∀ j u, (f x)[j]? = some u → w.cell? ⟨b, off + (k * size + j), none⟩ = some u := by
  have hk : k < l.length := (List.getElem?_eq_some_iff.1 hx).1
  obtain ⟨b, off, e, hb, hc⟩ := h.2 (by omega)
  refine ⟨b, off, e, hb, fun j u hu => hc _ u ?_⟩
  have hj : j < size := by rw [← hf x]; exact (List.getElem?_eq_some_iff.1 hu).1
  rw [flat_get hf hx j hj, hu]
theorem addr_lit {w : World} {a : Addr} {i : Nat} {v : Value} (h : w.cell? (a.add i) = some v) (hi : i = 0) : a = ⟨a.block, a.off, none⟩ := by
  subst hi
  obtain ⟨b, o, s⟩ := a
  cases s with
  | none => rfl
  | some s =>
    exfalso
    unfold Addr.add World.cell? at h
    simp only [if_true] at h
    split at h <;> simp at h
theorem add_lit (b o i : Nat) : (⟨b, o, none⟩ : Addr).add i = ⟨b, o + i, none⟩ := by
  unfold Addr.add
  split
  · rename_i h; subst h; rfl
  · rfl

section
variable {H : Type} {enc : TypeId × Value → H} {W : World} {base : Nat} {spare : Nat → Bool} {held : Bool}
set_option maxRecDepth 100000 in
/-- a slice argument whose elements read as 'f m' for some m -/
theorem open_list {α : Type} {t e : TypeId} {k : Nat} (f : α → List Value) (ok : α → Prop) (hf : ∀ m, (f m).length = k) (ht : Tryd.prog.underlying t = some (.slice e)) (hC : Tryd.prog.cellsOf e = k) (hk : 0 < k)
    (hel : ∀ (n : Nat) (cs : List Value) (x : DataW H × List MemPlace), DataW.trod enc Tryd.prog W base spare held n e cs = some x → ∃ m, cs = f m ∧ ok m) {v : Value} {d : DataW H} {ps : List MemPlace} {r : Reach} {b0 : Nat}
    (hv : Value.okWide Tryd.prog W r b0 t v) (h : DataW.Trod enc Tryd.prog W base spare held t v d ps) :
    ∃ (A : Option Addr) (n c : Nat) (l : List α), v = .slice A n c ∧ l.length = n ∧ n ≤ maxLen ∧ (∀ m ∈ l, ok m) ∧ Reads W W.heap.size k A n (l.flatMap f) := by
  obtain ⟨A, n, c, rfl⟩ := okWide_slice ht hv
  obtain ⟨fuel, hfu⟩ := h
  rcases open_slice ht hfu with ⟨h0, _⟩ | ⟨a, len, cap, m, n', D, Pl, hcs, hb, hl, hm, hmm, hx, hi⟩
  · have : Value.slice A n c = .slice none 0 0 := by simpa [Value.cells] using h0
    injection this with e1 e2 e3
    subst e1; subst e2; subst e3
    exact ⟨none, 0, 0, [], rfl, rfl, by simp [maxLen], by simp, by simp, fun h => by omega⟩
  · have : Value.slice A n c = .slice (some a) len cap := by simpa [Value.cells] using hcs
    injection this with e1 e2 e3
    subst e1; subst e2; subst e3
    have hlm : n ≤ m := by rw [hmm]; split <;> omega
    have step : ∀ q, q ≤ n → ∃ l : List α, l.length = q ∧ ∀ i y, l[i]? = some y → ok y ∧ ∀ j u, (f y)[j]? = some u → W.cell? (a.add (i * k + j)) = some u := by
      intro q
      induction q with
      | zero => exact fun _ => ⟨[], rfl, by simp⟩
      | succ q ih =>
        intro hq
        obtain ⟨l, hl1, hl2⟩ := ih (by omega)
        obtain ⟨cs', hc, ht'⟩ := hi q (by omega)
        rw [hC] at hc
        obtain ⟨y, rfl, hy⟩ := hel _ _ _ ht'
        obtain ⟨_, hcl, hat⟩ := World.cells?_some hc
        refine ⟨l ++ [y], by simp [hl1], fun i z hz => ?_⟩
        rcases Nat.lt_or_ge i q with hlt | hge
        · rw [List.getElem?_append_left (by omega)] at hz
          exact hl2 i z hz
        · rw [List.getElem?_append_right (by omega), hl1] at hz
          have hiq : i = q := by
            have := (List.getElem?_eq_some_iff.1 hz).1
            simp at this
            omega
          subst hiq
          simp only [Nat.sub_self, List.getElem?_cons_zero, Option.some.injEq] at hz
          subst hz
          refine ⟨hy, fun j u hu => ?_⟩
          have hj : j < k := by rw [← hf y]; exact (List.getElem?_eq_some_iff.1 hu).1
          rw [← Go.Deep.add_add, hat j hj, hu]
    obtain ⟨l, hl1, hl2⟩ := step n (Nat.le_refl _)
    refine ⟨some a, n, c, l, rfl, hl1, by omega, fun y hy => ?_, by rw [flat_len hf, hl1], fun hn => ?_⟩
    · obtain ⟨i, hi'⟩ := List.getElem?_of_mem hy
      exact (hl2 i y hi').1
    · have key : ∀ j u, (l.flatMap f)[j]? = some u → W.cell? (a.add j) = some u := by
        intro j u hu
        have hjl : j < n * k := by
          have := (List.getElem?_eq_some_iff.1 hu).1
          rwa [flat_len hf, hl1] at this
        have hd : j / k < n := (Nat.div_lt_iff_lt_mul hk).2 hjl
        have hm' : j % k < k := Nat.mod_lt _ hk
        have hy : l[j / k]? = some (l[j / k]'(by omega)) := by simp
        have h1 := flat_get hf hy (j % k) hm'
        rw [Nat.div_add_mod'] at h1
        have := (hl2 _ _ hy).2 (j % k) u (h1.symm.trans hu)
        rwa [Nat.div_add_mod'] at this
      obtain ⟨u, hu⟩ : ∃ u, (l.flatMap f)[0]? = some u := by
        have : 0 < (l.flatMap f).length := by rw [flat_len hf, hl1]; exact Nat.mul_pos hn hk
        exact ⟨(l.flatMap f)[0], by simp⟩
      have h0 := key 0 u hu
      have ha := addr_lit h0 rfl
      have hlt := World.block_lt_of_cell? W _ h0
      rw [block_of_add] at hlt
      refine ⟨a.block, a.off, by rw [← ha], hlt, fun j v hv => ?_⟩
      have := key j v hv
      rw [ha, add_lit] at this
      exact this
end

theorem trodAll_stays {H : Type} {enc : TypeId × Value → H} {W W' : World} {sp : Nat → Bool} (hb : Below W.heap.size W W') : ∀ (ts : List TypeId) (vs : List Value) (ds : List (DataW H)) (ps : List MemPlace),
    (∀ t ∈ ts, Tryd.prog.readableRec t = true ∧ t < Tryd.prog.types.size) → DataW.TrodAll enc Tryd.prog W 0 (fun _ => true) true ts vs ds ps → (∀ x ∈ ps, x.block < W.heap.size ∧ sp x.block = true) → DataW.TrodAll enc Tryd.prog W' 0 sp true ts vs ds ps
  | [], [], [], _, _, h, _ => h
  | t :: ts, v :: vs, d :: ds, ps, hr, ⟨p, q, h1, h2, e⟩, hx => by
    subst e
    exact ⟨p, q, WideElems.Trod_stays laidOut (hr t (by simp)).1 (hr t (by simp)).2 h1 (fun x hm => hb.same (hx x (by simp [hm])).1) (fun x hm => (hx x (by simp [hm])).2),
      trodAll_stays hb ts vs ds q (fun t' ht => hr t' (by simp [ht])) h2 (fun x hm => hx x (by simp [hm])), rfl⟩
  | [], [], _ :: _, _, _, h, _ => h.elim
  | [], _ :: _, _, _, _, h, _ => h.elim
  | _ :: _, [], _, _, _, h, _ => h.elim
  | _ :: _, _ :: _, [], _, _, h, _ => h.elim

/-- WHAT A CALL THAT ANSWERS true AND LEAVES OLD MEMORY ALONE GIVES, at every law of this seat. -/
theorem law_post {H : Type} {enc : TypeId × Value → H} {k : FuncId} {f : Func} {s : ChangeSpec} (hvars : s.vars = []) (hfn : ∀ ds : List (DataW H), ds.length = f.params.size → s.fn H ds = { results := [.lit (.bool true)], args := ds, vars := [] })
    (hres : f.resultTypes = #[4]) (hrd : ∀ t ∈ f.params.toList, Tryd.prog.readableRec t = true ∧ t < Tryd.prog.types.size) {W : World} {args : Array Value} {ds gs : List (DataW H)} {before : List MemPlace}
    (hW : DataW.Whole enc Tryd.prog f.params.toList s.vars false W args.toList ds gs before) (hc : Calls Tryd.prog k args W fun e W' => e = .returned (.bool true) ∧ Below W.heap.size W W') :
    Calls Tryd.prog k args W fun e W' => ∃ v, e = .returned v ∧ s.post enc Tryd.prog f false true false false W args v W' := by
  refine hc.mono ?_
  rintro e W' ⟨rfl, hb⟩
  have hlt : ∀ p ∈ before, p.block < W.heap.size := fun p hp => hW.lt p hp
  have hW' := hW
  obtain ⟨p, q, hA, hV, rfl, hfz, hnd⟩ := hW
  rw [hvars] at hV
  obtain ⟨rfl, rfl⟩ := trodVars_none hV
  have hlen : ds.length = f.params.size := by
    have : ∀ (ts : List TypeId) (vs : List Value) (ds : List (DataW H)) (ps : List MemPlace), DataW.TrodAll enc Tryd.prog W 0 (fun _ => true) true ts vs ds ps → ds.length = ts.length := by
      intro ts
      induction ts with
      | nil => intro vs ds ps h; cases vs <;> cases ds <;> first | rfl | exact h.elim
      | cons t ts ih =>
        intro vs ds ps h
        cases vs <;> cases ds <;> first | exact h.elim | skip
        obtain ⟨_, _, _, h2, _⟩ := h
        simp [ih _ _ _ h2]
    rw [this _ _ _ _ hA, Array.length_toList]
  have e1 := hfn (ds ++ []) (by simpa using hlen)
  refine ⟨_, rfl, ds, [], p ++ [], [], p, [], hW', ?_, ?_, ?_, World.keptBut_mono (fun _ h => h.elim) (hb.frame fun _ => False), fun h => by cases h⟩
  · rw [e1, hres]
    exact trodAll_mk1 (shut_bool Tryd.underlying4 true)
  · rw [e1]
    simp only [List.append_nil]
    exact trodAll_stays hb _ _ _ _ hrd hA fun x hx => ⟨hlt x (by simp [hx]), by simpa using hlt x (by simp [hx])⟩
  · rw [e1, hvars]
    rfl
end Go.Proofs.YtioeafjlbdpjoaaDoor

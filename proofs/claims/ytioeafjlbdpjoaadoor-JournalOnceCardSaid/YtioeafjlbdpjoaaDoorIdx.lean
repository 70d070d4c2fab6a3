/- slices.IndexFunc, ContainsFunc over keys and over stretches. -/
import Derived.Test.YtioeafjlbdpjoaaDoorAbout
namespace Go.Proofs.YtioeafjlbdpjoaaDoor
open Go.RowKit
abbrev ptr (b : Nat) : Value := .pointer (some ⟨b, 0, none⟩)
theorem Reads.fr0 {w w' : World} {size n : Nat} {A : Option Addr} {xs : List Value} (h : Reads w w.heap.size size A n xs) (hf : Fr [] w w') : Reads w' w'.heap.size size A n xs :=
  ⟨h.1, fun hn => by
    obtain ⟨b, off, e, hb', hc⟩ := h.2 hn
    exact ⟨b, off, e, Nat.lt_of_lt_of_le hb' hf.size, fun j u hu => (hf.cell (p := ⟨b, off + j, none⟩) hb' (by simp)).trans (hc j u hu)⟩⟩
/-- a row that a slice owns can be read -/
theorem row_reads {w : World} {B n size : Nat} {e : TypeId} {v : Value} {xs : List Value} (h : w.ownsRow B e size v n xs) : ∃ A c, v = .slice A n c ∧ Reads w w.heap.size size A n xs := by
  rcases row_form h with ⟨rfl, h0, hx⟩ | ⟨g, cap, rfl, _, hl, _⟩
  · subst h0; subst hx
    exact ⟨none, 0, rfl, by simp, fun h => by omega⟩
  · exact ⟨_, _, rfl, row_len h, fun _ => ⟨g, 0, rfl, hl, fun j u hu => by rw [Nat.zero_add]; exact row_cell h hu⟩⟩
def idxOf (o : Option Nat) : Int := match o with
  | some i => i
  | none => -1
theorem findIdx_at {α : Type} {q : α → Bool} {l : List α} {i : Nat} {x : α} (h : ∀ m < i, ∀ y, l[m]? = some y → q y = false) (hx : l[i]? = some x) (he : q x = true) : l.findIdx? q = some i := by
  rw [List.findIdx?_eq_some_iff_getElem]
  have hi := (List.getElem?_eq_some_iff.1 hx).1
  refine ⟨hi, by rw [(List.getElem?_eq_some_iff.1 hx).2]; exact he, fun j hj => ?_⟩
  simpa using h j hj _ (List.getElem?_eq_getElem (by omega))
theorem findIdx_no {α : Type} {q : α → Bool} {l : List α} (h : ∀ m < l.length, ∀ y, l[m]? = some y → q y = false) : l.findIdx? q = none := by
  rw [List.findIdx?_eq_none_iff]
  intro x hx
  obtain ⟨i, hi⟩ := List.getElem?_of_mem hx
  exact h i (List.getElem?_eq_some_iff.1 hi).1 x hi
set_option maxRecDepth 100000 in
set_option maxHeartbeats 1000000 in
theorem note1_calls {w : World} {b p m : Nat} {fr : Int} {uv : Value} {ks : List Ky} (hb : Blk w b 68 #[ptr p]) (hp : Blk w p 72 #[.int .i64 fr, uv, .map (some m)]) (hs : SetB w m ks) (k : Ky) :
    Calls Tryd.prog 32 #[encK k, ptr b] w fun e w' => e = .returned (.bool (decide (k ∈ ks))) ∧ Fr [] w w' := by
  have c0 := hb.at_ 0 (v := ptr p) rfl
  have c2 := hp.at_ 2 (v := .map (some m)) rfl
  have lb := hb.lt
  have lp := hp.lt
  have rs : (Instr.lookup 70 (.map (some m)) (.agg #[.int .i64 k.kind, .int .i64 k.id, .int .i64 k.n]) false).run Tryd.prog (w.alloc (.cells #[.int .i64 k.kind, .int .i64 k.id, .int .i64 k.n] 74)).drew = .ok (.bool (decide (k ∈ ks))) (w.alloc (.cells #[.int .i64 k.kind, .int .i64 k.id, .int .i64 k.n] 74)).drew := run_seen (hs.fr0 (((Fr.refl _ _).alloc _).drew)) k
  generalize decide (k ∈ ks) = bb at *
  clear hb hp hs
  go_enter Tryd.func32, Tryd.ntmps32
  go_wp2_with fail
  go_region
  all_goals
    go_wp2_with fail
    go_ret
    exact ⟨rfl, ((Fr.refl _ _).alloc _).drew⟩
set_option maxRecDepth 100000 in
set_option maxHeartbeats 1000000 in
theorem place1_calls {w : World} {b p : Nat} {fr : Int} {uv mv : Value} {f : Int} (hb : Blk w b 3 #[.int .i64 f]) (hp : Blk w p 72 #[.int .i64 fr, uv, mv]) :
    Calls Tryd.prog 48 #[ptr p, ptr b] w fun e w' => e = .returned (.bool (decide (fr = f))) ∧ Fr [] w w' := by
  have c0 := hb.at_ 0 (v := .int .i64 f) rfl
  have c2 := hp.at_ 0 (v := .int .i64 fr) rfl
  have lb := hb.lt
  have lp := hp.lt
  clear hb hp
  go_enter Tryd.func48, Tryd.ntmps48
  go_wp2_with fail
  go_region
  all_goals
    go_wp2_with fail
    go_ret
    refine ⟨ret_eq (bool_eq (by rw [Bool.eq_iff_iff]; simp)), (Fr.refl _ _).drew⟩
set_option maxRecDepth 100000 in
set_option maxHeartbeats 2000000 in
theorem idxk_calls {w : World} {A : Option Addr} {n c : Nat} {cs : List Ky} (hr : Reads w w.heap.size 3 A n (cs.flatMap cellsK)) (hl : cs.length = n) (hn : n ≤ 1000) {p : Nat} (q : Ky → Bool)
    (hF : ∀ W k, Fr [] w W → Calls Tryd.prog 32 #[encK k, ptr p] W fun e w' => e = .returned (.bool (q k)) ∧ Fr [] W w') :
    Calls Tryd.prog 46 #[.slice A n c, .func (.func 32) #[] #[ptr p]] w fun e w' => e = .returned (.int .i64 (idxOf (cs.findIdx? q))) ∧ Fr [] w w' := by
  have HR := hide (And.intro hr (And.intro hl hF))
  clear hr hl hF
  go_enter Tryd.func46, Tryd.ntmps46
  go_wp2_with fail
  go_loopw [5, 8] (fun s5 s8 wr => ∃ i : Nat, i ≤ n ∧ s8 = .int .i64 i ∧ (∀ m < i, ∀ y, cs[m]? = some y → q y = false) ∧ Fr [] w wr) (fun _ s8 _ => n - (intOf s8).toNat)
  case atStart => exact ⟨0, by omega, rfl, fun m hm => by omega, Fr.refl _ _⟩
  case round =>
    obtain ⟨i, hi, rfl, hno, hf⟩ := hrel
    have i0 : (0 : Int) ≤ (i : Int) := by omega
    have Hf := hide (And.intro hf hno)
    by_cases hin : i < n
    · have i1 : (i : Int) < (n : Int) := by omega
      obtain ⟨x, hx⟩ : ∃ x, cs[i]? = some x := ⟨cs[i]'(by have := HR.out.2.1; omega), by simp⟩
      obtain ⟨b, off, rfl, hb, hcl⟩ := HR.out.1.at_ cellsK_len hx HR.out.2.1
      have hcl' := fun (j : Nat) u (hu : (cellsK x)[j]? = some u) => (hf.cell (p := ⟨b, off + (i * 3 + j), none⟩) hb (by simp)).trans (hcl j u hu)
      have a0 := hcl' 0 _ rfl
      have a1 := hcl' 1 _ rfl
      have a2 := hcl' 2 _ rfl
      rw [Nat.add_zero] at a0
      rw [← Nat.add_assoc] at a1 a2
      have HF := hide (HR.out.2.2 wr x hf)
      simp only [encK] at HF
      have Hx := hide hx
      clear hcl hcl' hx hno hf
      by_cases he : q x = true
      · rw [he] at HF
        have He := hide he
        clear he
        go_wp2_with fail
        refine HF.out.mono ?_
        rintro e w2 ⟨rfl, hf2⟩
        have H2 := hide (Hf.out.1.trans hf2)
        clear hf2
        go_wp2_with fail
        go_ret
        refine ⟨?_, H2.out⟩
        rw [findIdx_at Hf.out.2 Hx.out He.out]
        rfl
      · have he : q x = false := by simpa using he
        rw [he] at HF
        have He := hide he
        clear he
        go_wp2_with fail
        refine HF.out.mono ?_
        rintro e w2 ⟨rfl, hf2⟩
        have H2 := hide (Hf.out.1.trans hf2)
        clear hf2
        go_wp2_with fail
        go_roundw
        case rel =>
          refine ⟨i + 1, by omega, by go_num, fun m hm y hy => ?_, H2.out⟩
          rcases Nat.lt_or_ge m i with hlt | hge
          · exact Hf.out.2 m hlt y hy
          · obtain rfl : m = i := by omega
            obtain rfl : x = y := Option.some.inj (Hx.out.symm.trans hy)
            exact He.out
        case measure => simp [intOf]; omega
    · have hin' : ¬ (i : Int) < (n : Int) := by omega
      have hie : i = n := by omega
      have hno2 := hno
      have hnone := findIdx_no (l := cs) (q := q) (fun m hm y hy => hno2 m (by rw [HR.out.2.1] at hm; omega) y hy)
      have Hn := hide hnone
      clear hno hno2 hf hie hnone
      go_wp2_with fail
      go_ret
      refine ⟨?_, Hf.out.1⟩
      rw [Hn.out]
      rfl
theorem idxOf_ge {α : Type} (q : α → Bool) (l : List α) : decide (idxOf (l.findIdx? q) ≥ 0) = l.any q := by
  cases h : l.findIdx? q with
  | none =>
    rw [List.findIdx?_eq_none_iff] at h
    rw [show l.any q = false from by rw [List.any_eq_false]; intro x hx; simpa using h x hx]
    rfl
  | some i =>
    rw [List.findIdx?_eq_some_iff_getElem] at h
    obtain ⟨hi, hq, _⟩ := h
    rw [show l.any q = true from by rw [List.any_eq_true]; exact ⟨l[i], List.getElem_mem _, by simpa using hq⟩]
    simp [idxOf]
set_option maxRecDepth 100000 in
set_option maxHeartbeats 1000000 in
theorem cont_calls {w : World} {A : Option Addr} {n c : Nat} {cs : List Ky} (hr : Reads w w.heap.size 3 A n (cs.flatMap cellsK)) (hl : cs.length = n) (hn : n ≤ 1000) {p : Nat} (q : Ky → Bool)
    (hF : ∀ W k, Fr [] w W → Calls Tryd.prog 32 #[encK k, ptr p] W fun e w' => e = .returned (.bool (q k)) ∧ Fr [] W w') :
    Calls Tryd.prog 31 #[.slice A n c, .func (.func 32) #[] #[ptr p]] w fun e w' => e = .returned (.bool (cs.any q)) ∧ Fr [] w w' := by
  have HI := hide (idxk_calls (c := c) hr hl hn q hF)
  have hg := idxOf_ge q cs
  generalize idxOf (cs.findIdx? q) = ii at *
  generalize cs.any q = bb at *
  have Hg := hide hg
  clear hr hl hF hg
  go_enter Tryd.func31, Tryd.ntmps31
  go_wp2_with fail
  refine HI.out.mono ?_
  rintro e w2 ⟨rfl, hf2⟩
  have H2 := hide hf2
  clear hf2
  go_wp2_with fail
  go_ret
  exact ⟨ret_eq (bool_eq (by first | exact Hg.out | simpa using Hg.out)), H2.out⟩
/-- the place of a frame among the stretches -/
def placeOf (fs : List Int) (f : Int) : Option Nat := fs.findIdx? fun x => decide (x = f)
set_option maxRecDepth 100000 in
set_option maxHeartbeats 2000000 in
theorem idxs_calls {w : World} {g o n c : Nat} {cs : List (Nat × Int)} {B : Nat} (hr : RowO w B 68 (.slice (some ⟨g, o, none⟩) n c) n (cs.map fun x => ptr x.1)) (hn : n ≤ 100000) {p : Nat} {f : Int}
    (hF : ∀ W x, x ∈ cs → Fr [] w W → Calls Tryd.prog 48 #[ptr x.1, ptr p] W fun e w' => e = .returned (.bool (decide (x.2 = f))) ∧ Fr [] W w') :
    Calls Tryd.prog 47 #[.slice (some ⟨g, o, none⟩) n c, .func (.func 48) #[] #[ptr p]] w fun e w' => e = .returned (.int .i64 (idxOf (placeOf (cs.map (·.2)) f))) ∧ Fr [] w w' := by
  have hl : cs.length = n := by have := hr.len; rwa [List.length_map] at this
  have HR := hide (And.intro hr (And.intro hl hF))
  clear hr hl hF
  go_enter Tryd.func47, Tryd.ntmps47
  go_wp2_with fail
  go_loopw [5, 8] (fun s5 s8 wr => ∃ i : Nat, i ≤ n ∧ s8 = .int .i64 i ∧ (∀ m < i, ∀ y, (cs.map (·.2))[m]? = some y → decide (y = f) = false) ∧ Fr [] w wr) (fun _ s8 _ => n - (intOf s8).toNat)
  case atStart => exact ⟨0, by omega, rfl, fun m hm => by omega, Fr.refl _ _⟩
  case round =>
    obtain ⟨i, hi, rfl, hno, hf⟩ := hrel
    have i0 : (0 : Int) ≤ (i : Int) := by omega
    have Hf := hide (And.intro hf hno)
    by_cases hin : i < n
    · have i1 : (i : Int) < (n : Int) := by omega
      obtain ⟨x, hx⟩ : ∃ x, cs[i]? = some x := ⟨cs[i]'(by have := HR.out.2.1; omega), by simp⟩
      have a0 := (HR.out.1.fr0 hf).cell (i := i) (u := ptr x.1) (by rw [List.getElem?_map, hx]; rfl)
      have HF := hide (HR.out.2.2 wr x (List.mem_of_getElem? hx) hf)
      have Hx := hide hx
      clear hx hno hf
      by_cases he : x.2 = f
      · rw [decide_eq_true he] at HF
        have He := hide he
        clear he
        go_wp2_with fail
        refine HF.out.mono ?_
        rintro e w2 ⟨rfl, hf2⟩
        have H2 := hide (Hf.out.1.trans hf2)
        clear hf2
        go_wp2_with fail
        go_ret
        refine ⟨?_, H2.out⟩
        rw [placeOf, findIdx_at Hf.out.2 (by rw [List.getElem?_map, Hx.out]; rfl) (decide_eq_true He.out)]
        rfl
      · rw [decide_eq_false he] at HF
        have He := hide he
        clear he
        go_wp2_with fail
        refine HF.out.mono ?_
        rintro e w2 ⟨rfl, hf2⟩
        have H2 := hide (Hf.out.1.trans hf2)
        clear hf2
        go_wp2_with fail
        go_roundw
        case rel =>
          refine ⟨i + 1, by omega, by go_num, fun m hm y hy => ?_, H2.out⟩
          rcases Nat.lt_or_ge m i with hlt | hge
          · exact Hf.out.2 m hlt y hy
          · obtain rfl : m = i := by omega
            rw [List.getElem?_map, Hx.out] at hy
            obtain rfl : x.2 = y := by simpa using hy
            exact decide_eq_false He.out
        case measure => simp [intOf]; omega
    · have hin' : ¬ (i : Int) < (n : Int) := by omega
      have hie : i = n := by omega
      have hno2 := hno
      have hnone := findIdx_no (l := cs.map (·.2)) (q := fun x => decide (x = f)) (fun m hm y hy => hno2 m (by rw [List.length_map, HR.out.2.1] at hm; omega) y hy)
      have Hn := hide hnone
      clear hno hno2 hf hie hnone
      go_wp2_with fail
      go_ret
      refine ⟨?_, Hf.out.1⟩
      rw [placeOf, Hn.out]
      rfl
end Go.Proofs.YtioeafjlbdpjoaaDoor

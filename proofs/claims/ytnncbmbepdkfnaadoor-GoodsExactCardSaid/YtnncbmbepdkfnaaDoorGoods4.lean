/- Goods by contracts: All, Put, what a nil answers. -/
import Derived.Test.YtnncbmbepdkfnaaDoorAwakeG
import Derived.Test.YtnncbmbepdkfnaaDoorCloneG
namespace Go.Proofs.YtnncbmbepdkfnaaDoor
open Go.RowKit
/-! ### nil -/
abbrev np : Value := .pointer none
set_option maxRecDepth 100000 in
theorem len_nil {w : World} : Calls Tryd.prog 18 #[np] w fun e w' => e = .returned (.int .i64 0) ∧ w = w' := by
  go_enter Tryd.func18, Tryd.ntmps18
  go_wp2_with fail
  go_ret
  exact ⟨rfl, rfl⟩
set_option maxRecDepth 100000 in
theorem changes_nil {w : World} : Calls Tryd.prog 12 #[np] w fun e w' => e = .returned (.int .i64 0) ∧ w = w' := by
  go_enter Tryd.func12, Tryd.ntmps12
  go_wp2_with fail
  go_ret
  exact ⟨rfl, rfl⟩
set_option maxRecDepth 100000 in
theorem all_nil {w : World} : Calls Tryd.prog 13 #[np] w fun e w' => e = .returned (.slice none 0 0) ∧ w = w' := by
  go_enter Tryd.func13, Tryd.ntmps13
  go_wp2_with fail
  go_ret
  exact ⟨rfl, rfl⟩
set_option maxRecDepth 100000 in
theorem named_nil {w : World} (nm : ByteArray) : Calls Tryd.prog 11 #[np, .string nm] w fun e w' => e = .returned (.tuple #[.int .i64 0, .bool false]) ∧ w = w' := by
  go_enter Tryd.func11, Tryd.ntmps11
  go_wp2_with fail
  go_ret2
  exact ⟨rfl, rfl⟩
set_option maxRecDepth 100000 in
theorem get_nil {w : World} : Calls Tryd.prog 10 #[np, .int .i64 0] w fun e w' => e = .returned (.tuple #[.int .i64 0, .bool false]) ∧ w = w' := by
  have HL := hide (len_nil (w := w))
  go_enter Tryd.func10, Tryd.ntmps10
  go_wp2_with fail
  refine HL.out.mono ?_
  rintro e w' ⟨rfl, rfl⟩
  go_wp2_with fail
  go_ret2
  exact ⟨rfl, rfl⟩
section
variable {B : Nat} {w : World} {g : Nat} {ns : List ByteArray} {vs : List Int} {ch : Int} {S : List Nat}
set_option maxRecDepth 100000 in
theorem set_nil {B0 : Nat} {ad : Nat → Addr} {K : List Nat} (m2 : 2 ∈ K) (hs : Sents K B0 w ad) (v : Int) :
    Calls Tryd.prog 9 #[np, .int .i64 0, .int .i64 v] w fun e w' => ∃ x, e = .returned (.tuple #[.int .i64 0, x]) ∧ HC w' ad x ([sGoods], 2) ∧ Fr [] w w' := by
  have HGt := hide (get_nil (w := w))
  have HW := hide (wrongK_calls (w := w) (ad := ad) (k := 2) (by omega) (by omega))
  have g1 := hs.cell 2 m2
  have lg1 := Nat.lt_of_lt_of_le (hs.glob 2 m2) hs.le
  have e1 : gOf 2 = 0 := rfl
  rw [e1] at g1 lg1
  clear hs e1
  go_enter Tryd.func9, Tryd.ntmps9
  go_wp2_with fail
  refine HGt.out.mono ?_
  rintro e w' ⟨rfl, rfl⟩
  go_wp2_with fail
  refine HW.out.mono ?_
  rintro e w2 ⟨x, rfl, hx, hf⟩
  have H2 := hide (And.intro hx hf)
  clear hx hf
  go_wp2_with fail
  go_ret2
  exact ⟨_, rfl, H2.out.1, H2.out.2⟩
set_option maxRecDepth 100000 in
theorem add_nil {B0 : Nat} {ad : Nat → Addr} {K : List Nat} (m2 : 2 ∈ K) (hs : Sents K B0 w ad) :
    Calls Tryd.prog 14 #[np, .int .i64 0, .int .i64 0] w fun e w' => ∃ x, e = .returned (.tuple #[.int .i64 0, x]) ∧ HC w' ad x ([sGoods], 2) ∧ Fr [] w w' := by
  have HGt := hide (get_nil (w := w))
  have HS := hide (set_nil m2 hs 0)
  clear hs
  go_enter Tryd.func14, Tryd.ntmps14
  go_wp2_with fail
  refine HGt.out.mono ?_
  rintro e w' ⟨rfl, rfl⟩
  go_wp2_with fail
  refine HS.out.mono ?_
  rintro e w2 ⟨x, rfl, hx, hf⟩
  have hne := hx.not_nil
  have H2 := hide (And.intro hx hf)
  rcases hx.form with ⟨b, rfl⟩ | ⟨a, rfl⟩
  all_goals
    clear hx hf
    go_wp2_with fail
    go_ret2
    exact ⟨_, rfl, H2.out.1, H2.out.2⟩
set_option maxRecDepth 100000 in
theorem put_nil {B0 : Nat} {ad : Nat → Addr} {K : List Nat} (m2 : 2 ∈ K) (hs : Sents K B0 w ad) :
    Calls Tryd.prog 15 #[np, .slice none 0 0] w fun e w' => ∃ x, e = .returned x ∧ HC w' ad x ([sGoods], 2) ∧ Fr [] w w' := by
  have HW := hide (wrongK_calls (w := w) (ad := ad) (k := 2) (by omega) (by omega))
  have g1 := hs.cell 2 m2
  have lg1 := Nat.lt_of_lt_of_le (hs.glob 2 m2) hs.le
  have e1 : gOf 2 = 0 := rfl
  rw [e1] at g1 lg1
  clear hs e1
  go_enter Tryd.func15, Tryd.ntmps15
  go_wp2_with fail
  refine HW.out.mono ?_
  rintro e w2 ⟨x, rfl, hx, hf⟩
  have H2 := hide (And.intro hx hf)
  clear hx hf
  go_wp2_with fail
  go_ret
  exact ⟨_, rfl, H2.out.1, H2.out.2⟩
/-! ### All, Put -/
set_option maxRecDepth 100000 in
theorem all_calls2 (h : GR B w g ns vs ch S) (hl : vs.length ≤ 1000) : Calls Tryd.prog 13 #[gp g] w fun e w' => ∃ v, e = .returned v ∧ w'.ownsRow w.heap.size 3 1 v vs.length (ints vs) ∧ Fr [] w w' := by
  obtain ⟨m, A, c, c0, c1, c2, lg, -, hr⟩ := h.cells
  have HC := hide (clone_calls hr (by omega))
  clear h hr
  generalize vs.length = n at *
  go_enter Tryd.func13, Tryd.ntmps13
  go_wp2_with fail
  refine HC.out.mono ?_
  rintro e w2 ⟨v, rfl, hr, hf⟩
  have H2 := hide (And.intro hr hf)
  clear hr hf
  go_wp2_with fail
  go_ret
  exact ⟨_, rfl, H2.out.1, H2.out.2⟩
end
def mix (xs vs : List Int) (i : Nat) : List Int := xs.take i ++ vs.drop i
theorem mix_len {xs vs : List Int} (h : xs.length = vs.length) (i : Nat) (hi : i ≤ xs.length) : (mix xs vs i).length = vs.length := by
  unfold mix; rw [List.length_append, List.length_take, List.length_drop]; omega
theorem mix_get {xs vs : List Int} {i : Nat} (hi : i ≤ xs.length) : (mix xs vs i)[i]? = vs[i]? := by
  unfold mix
  rw [List.getElem?_append_right (by rw [List.length_take]; omega), List.length_take, Nat.min_eq_left hi, Nat.sub_self, List.getElem?_drop, Nat.add_zero]
theorem mix_set {xs vs : List Int} {i : Nat} {x y : Int} (hx : xs[i]? = some x) (hy : vs[i]? = some y) : (mix xs vs i).set i x = mix xs vs (i + 1) := by
  obtain ⟨h1, -⟩ := List.getElem?_eq_some_iff.1 hx
  obtain ⟨h2, -⟩ := List.getElem?_eq_some_iff.1 hy
  unfold mix
  rw [List.set_append_right _ _ (by rw [List.length_take]; omega), List.length_take, Nat.min_eq_left (by omega), Nat.sub_self, List.drop_eq_getElem_cons h2, List.set_cons_zero, List.take_add_one, hx]
  simp
theorem mix_same {xs vs : List Int} {i : Nat} {x : Int} (hx : xs[i]? = some x) (hy : vs[i]? = some x) : mix xs vs i = mix xs vs (i + 1) := by
  rw [← mix_set hx hy]
  apply List.ext_getElem?
  intro j
  rw [List.getElem?_set]
  split
  · rename_i h
    subst h
    have hi := (List.getElem?_eq_some_iff.1 hx).1
    have : (mix xs vs i)[i]? = some x := by rw [mix_get (by omega)]; exact hy
    rw [this, if_pos (List.getElem?_eq_some_iff.1 this).1]
  · rfl
/-- at how many places the lists differ -/
def dif (xs vs : List Int) (i : Nat) : Nat := ((List.range i).filter fun j => decide (xs[j]? ≠ vs[j]?)).length
theorem dif_succ (xs vs : List Int) (i : Nat) : dif xs vs (i + 1) = dif xs vs i + (if xs[i]? ≠ vs[i]? then 1 else 0) := by
  unfold dif
  rw [List.range_succ, List.filter_append, List.length_append]
  by_cases h : xs[i]? = vs[i]? <;> simp [h]
theorem dif_le (xs vs : List Int) (i : Nat) : dif xs vs i ≤ i := by
  unfold dif
  have := List.length_filter_le (fun j => decide (xs[j]? ≠ vs[j]?)) (List.range i)
  simpa using this
set_option maxRecDepth 100000 in
set_option maxHeartbeats 2000000 in
theorem put_in {B : Nat} {w : World} {g : Nat} {ns : List ByteArray} {vs xs : List Int} {ch : Int} {S : List Nat} (h : GR B w g ns vs ch S) (hl : vs.length ≤ 1000) (hx : xs.length = vs.length) {A : Option Addr} {c : Nat} (h0 : 0 ≤ ch) (h1 : ch ≤ 100000)
    (hcl : ∀ W, Fr S w W → ∀ j y, xs[j]? = some y → ∃ b off, A = some ⟨b, off, none⟩ ∧ b < W.heap.size ∧ W.cell? ⟨b, off + j, none⟩ = some (.int .i64 y)) :
    Calls Tryd.prog 15 #[gp g, .slice A vs.length c] w fun e w' => e = .returned .nilIface ∧ GR B w' g ns xs (ch + dif xs vs vs.length) S ∧ Fr S w w' := by
  have n2 : ∀ (W : World), (binOp .neq 26 .nilIface .nilIface).run Tryd.prog W = .ok (.bool false) W := fun W => by kernel_rfl
  obtain ⟨m, A', c', c0, c1, c2, lg, -, -⟩ := h.cells
  have H0 := hide (And.intro h hcl)
  have Hx := hide hx
  obtain ⟨n, hn⟩ : ∃ n, n = vs.length := ⟨_, rfl⟩
  have Hn := hide hn
  rw [← hn] at hl c1 ⊢
  clear h hcl c0 c2 hn hx
  go_enter Tryd.func15, Tryd.ntmps15
  go_wp2_with fail
  go_loopw [27] (fun s27 wr => ∃ i : Nat, i ≤ n ∧ s27 = .int .i64 i ∧ GR B wr g ns (mix xs vs i) (ch + dif xs vs i) S ∧ Fr S w wr) (fun s27 _ => n - (intOf s27).toNat)
  case atStart => exact ⟨0, by omega, rfl, by simpa [mix, dif] using H0.out.1, Fr.refl _ _⟩
  case round =>
    obtain ⟨i, hi, rfl, hgr, hf⟩ := hrel
    have j0 : (0 : Int) ≤ (i : Int) := by omega
    have hml := mix_len Hx.out i (by rw [Hx.out, ← Hn.out]; exact hi)
    by_cases hin : i < n
    · have j1 : (i : Int) < (n : Int) := by omega
      obtain ⟨x, hx⟩ : ∃ x, xs[i]? = some x := ⟨_, List.getElem?_eq_getElem (by rw [Hx.out, ← Hn.out]; exact hin)⟩
      obtain ⟨y, hy⟩ : ∃ y, vs[i]? = some y := ⟨_, List.getElem?_eq_getElem (by rw [← Hn.out]; exact hin)⟩
      have hmy : (mix xs vs i)[i]? = some y := by rw [mix_get (by rw [Hx.out, ← Hn.out]; exact hi)]; exact hy
      obtain ⟨b, off, rfl, lb, a0⟩ := H0.out.2 wr hf i x hx
      have hd := dif_succ xs vs i
      have hdl := dif_le xs vs i
      obtain ⟨m2, A2, cc, d0, d1, d2, lg2, -, hr2⟩ := hgr.cells
      rw [hml, ← Hn.out] at d1 hr2
      rcases row_form hr2 with ⟨_, h0, _⟩ | ⟨ga, cap, hv, _, lga, _, _⟩
      · omega
      injection hv with e1 e2 e3
      subst e1 e3
      have r0 := row_cell hr2 (i := i) (u := .int .i64 y) (by unfold ints; rw [List.getElem?_map, hmy]; rfl)
      by_cases hxy : x = y
      · subst hxy
        have H := hide (And.intro hgr (And.intro hf (And.intro hd (mix_same hx hy))))
        have Hxy := hide (And.intro hx hy)
        clear hgr hf hd hx hy hmy hr2 d0 d2
        go_wp2_with fail
        go_roundw
        case rel =>
          refine ⟨i + 1, by omega, by go_num, ?_, H.out.2.1⟩
          rw [H.out.2.2.1, if_neg (by rw [Hxy.out.1, Hxy.out.2]; simp), ← H.out.2.2.2]
          exact H.out.1
        case measure => simp [intOf]; omega
      · have HS := hide (set_in hgr (by rw [hml, ← Hn.out]; exact hl) hmy x (by omega) (by omega))
        rw [mix_set hx hy] at HS
        have hb : (x == y) = false := by simpa using hxy
        have H := hide (And.intro hgr (And.intro hf hd))
        have Hxy := hide (And.intro hx (And.intro hy hxy))
        clear hgr hf hd hx hy hmy hr2 d0 d2
        go_wp2_with fail
        refine HS.out.mono ?_
        rintro e w5 ⟨rfl, hg5, hf5⟩
        have H5 := hide (And.intro hg5 (H.out.2.1.trans hf5))
        clear hg5 hf5
        go_wp2_with fail
        go_roundw
        case rel =>
          refine ⟨i + 1, by omega, by go_num, ?_, H5.out.2⟩
          rw [H.out.2.2, if_pos (by rw [Hxy.out.1, Hxy.out.2.1]; simpa using Hxy.out.2.2)]
          have := H5.out.1
          rw [show ch + ((dif xs vs i + 1 : Nat) : Int) = ch + (dif xs vs i : Nat) + 1 by omega]
          exact this
        case measure => simp [intOf]; omega
    · obtain rfl : i = n := by omega
      have hmx : mix xs vs i = xs := by
        unfold mix
        rw [List.take_of_length_le (by rw [Hx.out, ← Hn.out]; omega), List.drop_of_length_le (by rw [← Hn.out]; omega), List.append_nil]
      rw [hmx] at hgr
      have H := hide (And.intro hgr hf)
      have j1 : ¬ (i : Int) < (i : Int) := by omega
      clear hgr hf hmx
      go_wp2_with fail
      go_ret
      exact ⟨rfl, H.out.1, H.out.2⟩
end Go.Proofs.YtnncbmbepdkfnaaDoor

/- AtlasExact: what its rounds carry; turn; the acts opened. -/
import Derived.Test.YtclmmfkbkaldlaaDoorRefA3
import Derived.Test.YtclmmfkbkaldlaaDoorNum
import Derived.Test.YtclmmfkbkaldlaaDoorMaskArg
namespace Go.Proofs.YtclmmfkbkaldlaaDoor
open Go.RowKit

structure EI (K : List Nat) (w : World) (ad : Nat → Addr) (g g2 cn : Nat) (ms1 ms2 S1 S2 : List Nat) (L : List (Nat × TypeId × Array Value)) (wr : World) : Prop where
  atl : AtlR w.heap.size wr g cn ms1 S1
  ref : RefA w.heap.size wr g2 cn ms2 S2
  dis : ∀ b ∈ S1, b ∉ S2
  cx : Cx K w.heap.size ad w wr (S1 ++ S2) L
  tab : Tab w
section
variable {K : List Nat} {w wr w' : World} {ad : Nat → Addr} {g g2 cn : Nat} {ms1 ms2 ms' S1 S2 S' : List Nat} {L : List (Nat × TypeId × Array Value)}
theorem EI.fr0 (h : EI K w ad g g2 cn ms1 ms2 S1 S2 L wr) (hf : Fr [] wr w') : EI K w ad g g2 cn ms1 ms2 S1 S2 L w' := ⟨h.atl.fr0 hf, h.ref.fr0 hf, h.dis, h.cx.fr0 hf, h.tab⟩
theorem EI.alloc (h : EI K w ad g g2 cn ms1 ms2 S1 S2 L wr) (t : TypeId) (cs : Array Value) : EI K w ad g g2 cn ms1 ms2 S1 S2 ((wr.heap.size, t, cs) :: L) (wr.alloc (.cells cs t)) := ⟨h.atl.fr0 ((Fr.refl [] _).alloc _), h.ref.fr0 ((Fr.refl [] _).alloc _), h.dis, h.cx.alloc t cs, h.tab⟩
theorem EI.sub (h : EI K w ad g g2 cn ms1 ms2 S1 S2 L wr) {L' : List (Nat × TypeId × Array Value)} (hL : ∀ x ∈ L', x ∈ L) : EI K w ad g g2 cn ms1 ms2 S1 S2 L' wr :=
  ⟨h.atl, h.ref, h.dis, ⟨h.cx.sents, fun x hx => h.cx.loc x (hL x hx), h.cx.lt, h.cx.fr, h.cx.new, h.cx.le⟩, h.tab⟩
theorem EI.err (h : EI K w ad g g2 cn ms1 ms2 S1 S2 L wr) (hf : Fr [] wr w') {u : Value} {j : Nat} (hn : NewErr wr w' ad u j) :
    ∃ (b : Nat) (s : ByteArray), u = .iface 99 (.pointer (some ⟨b, 0, none⟩)) ∧ EI K w ad g g2 cn ms1 ms2 S1 S2 ((b, 101, #[.string s, sv (ad j)]) :: L) w' := by
  obtain ⟨b, s, hu, hc⟩ := h.cx.err hf hn
  exact ⟨b, s, hu, (h.fr0 hf).atl, (h.fr0 hf).ref, h.dis, hc, h.tab⟩
theorem EI.one (h : EI K w ad g g2 cn ms1 ms2 S1 S2 L wr) (hr : AtlR w.heap.size w' g cn ms' S') (hst : Stp S1 S' wr w') : EI K w ad g g2 cn ms' ms2 S' S2 L w' where
  atl := hr
  ref := h.ref.fr hst.1 fun b hb hm => h.dis b hm hb
  dis := fun b hb hm => (hst.2 b hb).elim (fun h1 => h.dis b h1 hm) fun hge => by have := (h.ref.lt b hm).1; omega
  cx := h.cx.go hst.1 (fun b hb => List.mem_append_left _ hb) (fun b hb => (List.mem_append.1 hb).elim (fun h1 => (hst.2 b h1).elim (fun h2 => .inl (List.mem_append_left _ h2)) .inr) fun h1 => .inl (List.mem_append_right _ h1))
    (fun b hb => (List.mem_append.1 hb).elim (fun h1 => (hr.lt b h1).1) fun h1 => Nat.lt_of_lt_of_le (h.ref.lt b h1).1 hst.1.size)
  tab := h.tab
theorem EI.two (h : EI K w ad g g2 cn ms1 ms2 S1 S2 L wr) (hr : RefA w.heap.size w' g2 cn ms' S') (hst : Stp S2 S' wr w') : EI K w ad g g2 cn ms1 ms' S1 S' L w' where
  atl := h.atl.fr hst.1 h.dis
  ref := hr
  dis := fun b hb hm => (hst.2 b hm).elim (h.dis b hb) fun hge => by have := (h.atl.lt b hb).1; omega
  cx := h.cx.go hst.1 (fun b hb => List.mem_append_right _ hb) (fun b hb => (List.mem_append.1 hb).elim (fun h1 => .inl (List.mem_append_left _ h1)) fun h1 => (hst.2 b h1).elim (fun h2 => .inl (List.mem_append_right _ h2)) .inr)
    (fun b hb => (List.mem_append.1 hb).elim (fun h1 => Nat.lt_of_lt_of_le (h.atl.lt b h1).1 hst.1.size) fun h1 => (hr.lt b h1).1)
  tab := h.tab
theorem EI.below (h : EI K w ad g g2 cn ms1 ms2 S1 S2 L wr) : Below w.heap.size w wr := h.cx.fr.below (by simp) (Nat.le_refl _)
theorem EI.tab' (h : EI K w ad g g2 cn ms1 ms2 S1 S2 L wr) : Tab wr := h.tab.below h.tab.1 h.below
end
/-- an error that came back, told by its number -/
def ErrIn (ad : Nat → Addr) (L : List (Nat × TypeId × Array Value)) (v : Value) (j : Nat) : Prop :=
  (v = .nilIface ∧ j = 0) ∨ ∃ (b : Nat) (s : ByteArray), v = .iface 99 (.pointer (some ⟨b, 0, none⟩)) ∧ 1 ≤ j ∧ (b, 101, #[.string s, sv (ad j)]) ∈ L
theorem awith_none {K : List Nat} {B B' : Nat} {w : World} {ad : Nat → Addr} (hs : Sents K B' w ad) (hK : 7 ∈ K) {g cn : Nat} {ms S : List Nat} (h : AtlR B w g cn ms S) (n c : Int) (hn : n < 0 ∨ (ms.length : Int) ≤ n) (hl : ms.length ≤ 1000000) :
    Calls Tryd.prog 13 #[.pointer (some ⟨g, 0, none⟩), .int .i64 n, .int .i64 c] w fun e w' => ∃ v, e = .returned (.tuple #[.int .i64 0, v]) ∧ NewErr w w' ad v 7 ∧ Fr [] w w' := by
  have H := hide (edge_none hs hK h n c true hn hl)
  clear hs h
  go_enter Tryd.func13, Tryd.ntmps13
  go_wp2_with fail
  refine H.out.mono ?_
  rintro e w' ⟨v, rfl, hn, hf⟩
  obtain ⟨t, a, rfl⟩ := hn.form
  have Hn := hide (And.intro hn hf)
  clear hn hf
  go_wp2_with fail
  go_ret2
  exact ⟨_, rfl, Hn.out.1, Hn.out.2⟩
theorem awith_arg {K : List Nat} {B B' : Nat} {w : World} {ad : Nat → Addr} (hs : Sents K B' w ad) (hK : 1 ∈ K) {g cn : Nat} {ms S : List Nat} (h : AtlR B w g cn ms S) {n m : Nat} (hm : ms[n]? = some m) (c : Int) (hc : c < 0 ∨ (cn : Int) ≤ c) (hl : ms.length ≤ 1000000) :
    Calls Tryd.prog 13 #[.pointer (some ⟨g, 0, none⟩), .int .i64 n, .int .i64 c] w fun e w' => ∃ v, e = .returned (.tuple #[.int .i64 0, v]) ∧ NewErr w w' ad v 1 ∧ Fr [] w w' := by
  have H := hide (edge_arg hs hK h hm c true hc hl)
  clear hs h
  go_enter Tryd.func13, Tryd.ntmps13
  go_wp2_with fail
  refine H.out.mono ?_
  rintro e w' ⟨v, rfl, hn, hf⟩
  obtain ⟨t, a, rfl⟩ := hn.form
  have Hn := hide (And.intro hn hf)
  clear hn hf
  go_wp2_with fail
  go_ret2
  exact ⟨_, rfl, Hn.out.1, Hn.out.2⟩
theorem awithout_none {K : List Nat} {B B' : Nat} {w : World} {ad : Nat → Addr} (hs : Sents K B' w ad) (hK : 7 ∈ K) {g cn : Nat} {ms S : List Nat} (h : AtlR B w g cn ms S) (n c : Int) (hn : n < 0 ∨ (ms.length : Int) ≤ n) (hl : ms.length ≤ 1000000) :
    Calls Tryd.prog 14 #[.pointer (some ⟨g, 0, none⟩), .int .i64 n, .int .i64 c] w fun e w' => ∃ v, e = .returned (.tuple #[.int .i64 0, v]) ∧ NewErr w w' ad v 7 ∧ Fr [] w w' := by
  have H := hide (edge_none hs hK h n c false hn hl)
  clear hs h
  go_enter Tryd.func14, Tryd.ntmps14
  go_wp2_with fail
  refine H.out.mono ?_
  rintro e w' ⟨v, rfl, hn, hf⟩
  obtain ⟨t, a, rfl⟩ := hn.form
  have Hn := hide (And.intro hn hf)
  clear hn hf
  go_wp2_with fail
  go_ret2
  exact ⟨_, rfl, Hn.out.1, Hn.out.2⟩
theorem awithout_arg {K : List Nat} {B B' : Nat} {w : World} {ad : Nat → Addr} (hs : Sents K B' w ad) (hK : 1 ∈ K) {g cn : Nat} {ms S : List Nat} (h : AtlR B w g cn ms S) {n m : Nat} (hm : ms[n]? = some m) (c : Int) (hc : c < 0 ∨ (cn : Int) ≤ c) (hl : ms.length ≤ 1000000) :
    Calls Tryd.prog 14 #[.pointer (some ⟨g, 0, none⟩), .int .i64 n, .int .i64 c] w fun e w' => ∃ v, e = .returned (.tuple #[.int .i64 0, v]) ∧ NewErr w w' ad v 1 ∧ Fr [] w w' := by
  have H := hide (edge_arg hs hK h hm c false hc hl)
  clear hs h
  go_enter Tryd.func14, Tryd.ntmps14
  go_wp2_with fail
  refine H.out.mono ?_
  rintro e w' ⟨v, rfl, hn, hf⟩
  obtain ⟨t, a, rfl⟩ := hn.form
  have Hn := hide (And.intro hn hf)
  clear hn hf
  go_wp2_with fail
  go_ret2
  exact ⟨_, rfl, Hn.out.1, Hn.out.2⟩
/-! ### turn -/
structure Act where
  kind : Int
  m : Nat
  w : Nat
  node : Int
  n : Int
def actA (a : Act) : Array Value := #[.int .i64 a.kind, .int .u32 a.m, .int .u32 a.w, .int .i64 a.node, .int .i64 a.n]
def encAct (a : Act) : List Value := [.int .i64 a.kind, .int .u32 a.m, .int .u32 a.w, .int .i64 a.node, .int .i64 a.n]
theorem encAct_len : ∀ a, (encAct a).length = 5 := fun _ => rfl
theorem turn_ok_true {B : Nat} {w : World} {g cn : Nat} {ms S : List Nat} (h : AtlR B w g cn ms S) (a : Act) (hk : a.kind = 2) (hB : B ≤ w.heap.size) {nd m : Nat} (hn : a.node = nd) (hm : ms[nd]? = some m) {c : Nat} (hc : a.n = c) (hcc : c < cn) (hl : ms.length ≤ 1000000) :
    Calls Tryd.prog 21 #[.pointer (some ⟨g, 0, none⟩), .agg (actA a)] w fun e w' => e = .returned (.tuple #[.int .i64 ((addm ms (tgt true m c)).idxOf (tgt true m c) : Nat), .nilIface]) ∧ ∃ S', AtlR B w' g cn (addm ms (tgt true m c)) S' ∧ Stp S S' w w' := by
  obtain ⟨kind, am, aw, node, n⟩ := a
  simp only at hk hn
  have H0 := hide ((Fr.refl [] w).alloc (.cells (actA ⟨kind, am, aw, node, n⟩) 51))
  subst hk
  simp only at hc
  subst hn; subst hc
  simp only [tgt, if_true]
  have H := hide (awith_ok (h.fr0 H0.out) (Nat.le_trans hB H0.out.size) hm hcc hl)
  clear h hB hm
  simp only [actA] at H H0 ⊢
  go_enter Tryd.func21, Tryd.ntmps21
  go_wp2_with fail
  refine H.out.mono ?_
  rintro e w' ⟨rfl, S', hr, hst⟩
  have Hn := hide (And.intro hr hst)
  clear hr hst
  go_wp2_with fail
  go_ret2
  exact ⟨rfl, S', Hn.out.1, (H0.out.any S).trans Hn.out.2.1, fun b hb => (Hn.out.2.2 b hb).imp_right fun hge => Nat.le_trans H0.out.size hge⟩
theorem turn_none_true {K : List Nat} {B B' : Nat} {w : World} {ad : Nat → Addr} (hs : Sents K B' w ad) (hK : 7 ∈ K) {g cn : Nat} {ms S : List Nat} (h : AtlR B w g cn ms S) (a : Act) (hk : a.kind = 2) (hn : a.node < 0 ∨ (ms.length : Int) ≤ a.node) (hl : ms.length ≤ 1000000) :
    Calls Tryd.prog 21 #[.pointer (some ⟨g, 0, none⟩), .agg (actA a)] w fun e w' => ∃ v, e = .returned (.tuple #[.int .i64 0, v]) ∧ NewErr w w' ad v 7 ∧ Fr [] w w' := by
  obtain ⟨kind, am, aw, node, n⟩ := a
  simp only at hk hn
  have H0 := hide ((Fr.refl [] w).alloc (.cells (actA ⟨kind, am, aw, node, n⟩) 51))
  subst hk
  have H := hide (awith_none (hs.fr0 H0.out) hK (h.fr0 H0.out) node n hn hl)
  clear hs h
  simp only [actA] at H H0 ⊢
  go_enter Tryd.func21, Tryd.ntmps21
  go_wp2_with fail
  refine H.out.mono ?_
  rintro e w' ⟨v, rfl, hn, hf⟩
  obtain ⟨t, a, rfl⟩ := hn.form
  have Hn := hide (And.intro hn hf)
  clear hn hf
  go_wp2_with fail
  go_ret2
  exact ⟨_, rfl, Hn.out.1.elder H0.out.size, H0.out.trans Hn.out.2⟩
theorem turn_arg_true {K : List Nat} {B B' : Nat} {w : World} {ad : Nat → Addr} (hs : Sents K B' w ad) (hK : 1 ∈ K) {g cn : Nat} {ms S : List Nat} (h : AtlR B w g cn ms S) (a : Act) (hk : a.kind = 2) {nd m : Nat} (hn : a.node = nd) (hm : ms[nd]? = some m) (hc : a.n < 0 ∨ (cn : Int) ≤ a.n) (hl : ms.length ≤ 1000000) :
    Calls Tryd.prog 21 #[.pointer (some ⟨g, 0, none⟩), .agg (actA a)] w fun e w' => ∃ v, e = .returned (.tuple #[.int .i64 0, v]) ∧ NewErr w w' ad v 1 ∧ Fr [] w w' := by
  obtain ⟨kind, am, aw, node, n⟩ := a
  simp only at hk hn
  have H0 := hide ((Fr.refl [] w).alloc (.cells (actA ⟨kind, am, aw, node, n⟩) 51))
  subst hk
  simp only at hc
  subst hn
  have H := hide (awith_arg (hs.fr0 H0.out) hK (h.fr0 H0.out) hm n hc hl)
  clear hs h
  simp only [actA] at H H0 ⊢
  go_enter Tryd.func21, Tryd.ntmps21
  go_wp2_with fail
  refine H.out.mono ?_
  rintro e w' ⟨v, rfl, hn, hf⟩
  obtain ⟨t, a, rfl⟩ := hn.form
  have Hn := hide (And.intro hn hf)
  clear hn hf
  go_wp2_with fail
  go_ret2
  exact ⟨_, rfl, Hn.out.1.elder H0.out.size, H0.out.trans Hn.out.2⟩
theorem turn_ok_false {B : Nat} {w : World} {g cn : Nat} {ms S : List Nat} (h : AtlR B w g cn ms S) (a : Act) (hk : a.kind ≠ 2) (hB : B ≤ w.heap.size) {nd m : Nat} (hn : a.node = nd) (hm : ms[nd]? = some m) {c : Nat} (hc : a.n = c) (hcc : c < cn) (hl : ms.length ≤ 1000000) :
    Calls Tryd.prog 21 #[.pointer (some ⟨g, 0, none⟩), .agg (actA a)] w fun e w' => e = .returned (.tuple #[.int .i64 ((addm ms (tgt false m c)).idxOf (tgt false m c) : Nat), .nilIface]) ∧ ∃ S', AtlR B w' g cn (addm ms (tgt false m c)) S' ∧ Stp S S' w w' := by
  obtain ⟨kind, am, aw, node, n⟩ := a
  simp only at hk hn
  have H0 := hide ((Fr.refl [] w).alloc (.cells (actA ⟨kind, am, aw, node, n⟩) 51))
  have hkb : (kind == 2) = false := by simp [hk]
  simp only at hc
  subst hn; subst hc
  simp only [tgt, Bool.false_eq_true, if_false]
  have H := hide (awithout_ok (h.fr0 H0.out) (Nat.le_trans hB H0.out.size) hm hcc hl)
  clear h hB hm
  simp only [actA] at H H0 ⊢
  go_enter Tryd.func21, Tryd.ntmps21
  go_wp2_with fail
  refine H.out.mono ?_
  rintro e w' ⟨rfl, S', hr, hst⟩
  have Hn := hide (And.intro hr hst)
  clear hr hst
  go_wp2_with fail
  go_ret2
  exact ⟨rfl, S', Hn.out.1, (H0.out.any S).trans Hn.out.2.1, fun b hb => (Hn.out.2.2 b hb).imp_right fun hge => Nat.le_trans H0.out.size hge⟩
theorem turn_none_false {K : List Nat} {B B' : Nat} {w : World} {ad : Nat → Addr} (hs : Sents K B' w ad) (hK : 7 ∈ K) {g cn : Nat} {ms S : List Nat} (h : AtlR B w g cn ms S) (a : Act) (hk : a.kind ≠ 2) (hn : a.node < 0 ∨ (ms.length : Int) ≤ a.node) (hl : ms.length ≤ 1000000) :
    Calls Tryd.prog 21 #[.pointer (some ⟨g, 0, none⟩), .agg (actA a)] w fun e w' => ∃ v, e = .returned (.tuple #[.int .i64 0, v]) ∧ NewErr w w' ad v 7 ∧ Fr [] w w' := by
  obtain ⟨kind, am, aw, node, n⟩ := a
  simp only at hk hn
  have H0 := hide ((Fr.refl [] w).alloc (.cells (actA ⟨kind, am, aw, node, n⟩) 51))
  have hkb : (kind == 2) = false := by simp [hk]
  have H := hide (awithout_none (hs.fr0 H0.out) hK (h.fr0 H0.out) node n hn hl)
  clear hs h
  simp only [actA] at H H0 ⊢
  go_enter Tryd.func21, Tryd.ntmps21
  go_wp2_with fail
  refine H.out.mono ?_
  rintro e w' ⟨v, rfl, hn, hf⟩
  obtain ⟨t, a, rfl⟩ := hn.form
  have Hn := hide (And.intro hn hf)
  clear hn hf
  go_wp2_with fail
  go_ret2
  exact ⟨_, rfl, Hn.out.1.elder H0.out.size, H0.out.trans Hn.out.2⟩
theorem turn_arg_false {K : List Nat} {B B' : Nat} {w : World} {ad : Nat → Addr} (hs : Sents K B' w ad) (hK : 1 ∈ K) {g cn : Nat} {ms S : List Nat} (h : AtlR B w g cn ms S) (a : Act) (hk : a.kind ≠ 2) {nd m : Nat} (hn : a.node = nd) (hm : ms[nd]? = some m) (hc : a.n < 0 ∨ (cn : Int) ≤ a.n) (hl : ms.length ≤ 1000000) :
    Calls Tryd.prog 21 #[.pointer (some ⟨g, 0, none⟩), .agg (actA a)] w fun e w' => ∃ v, e = .returned (.tuple #[.int .i64 0, v]) ∧ NewErr w w' ad v 1 ∧ Fr [] w w' := by
  obtain ⟨kind, am, aw, node, n⟩ := a
  simp only at hk hn
  have H0 := hide ((Fr.refl [] w).alloc (.cells (actA ⟨kind, am, aw, node, n⟩) 51))
  have hkb : (kind == 2) = false := by simp [hk]
  simp only at hc
  subst hn
  have H := hide (awithout_arg (hs.fr0 H0.out) hK (h.fr0 H0.out) hm n hc hl)
  clear hs h
  simp only [actA] at H H0 ⊢
  go_enter Tryd.func21, Tryd.ntmps21
  go_wp2_with fail
  refine H.out.mono ?_
  rintro e w' ⟨v, rfl, hn, hf⟩
  obtain ⟨t, a, rfl⟩ := hn.form
  have Hn := hide (And.intro hn hf)
  clear hn hf
  go_wp2_with fail
  go_ret2
  exact ⟨_, rfl, Hn.out.1.elder H0.out.size, H0.out.trans Hn.out.2⟩
/-! ### the acts -/
open Go.ChangeShapes Go.WideShapes Go.ChangeAt Go.Deep
theorem actLeaves : leaves Tryd.prog 6 51 = some [.int .i64, .int .u32, .int .u32, .int .i64, .int .i64] := by kernel_rfl
theorem actCells : Tryd.prog.cellsOf 51 = 5 := by kernel_rfl
theorem mask_nat {n : Int} (h : (Lit.int .u32 n).wf = true) : ∃ m : Nat, n = m ∧ m < 4294967296 := by
  obtain ⟨h0, h1⟩ := wf_u32 h
  exact ⟨n.toNat, (Int.toNat_of_nonneg h0).symm, (Int.toNat_lt h0).2 (Int.lt_of_le_of_lt h1 (by decide))⟩
set_option maxRecDepth 100000 in
theorem open_acts {H : Type} {enc : TypeId × Value → H} {W : World} {base : Nat} {spare : Nat → Bool} {held : Bool} {v : Value} {d : DataW H} {ps : List MemPlace} {r : Reach} {b0 : Nat}
    (hv : Value.okWide Tryd.prog W r b0 47 v) (h : DataW.Trod enc Tryd.prog W base spare held 47 v d ps) :
    ∃ (A : Option Addr) (n c : Nat) (l : List Act), v = .slice A n c ∧ l.length = n ∧ n ≤ maxLen ∧ (∀ a ∈ l, a.m < 4294967296 ∧ a.w < 4294967296) ∧ Reads W W.heap.size 5 A n (l.flatMap encAct) :=
  open_list (k := 5) encAct (fun a => a.m < 4294967296 ∧ a.w < 4294967296) encAct_len Tryd.underlying47 actCells (by omega) (fun n cs x h => by
    have h4 := leaves_ok 6 _ _ _ _ _ actLeaves h
    cases h4 with | cons a0 b0 => cases b0 with | cons a1 b1 => cases b1 with | cons a2 b2 => cases b2 with | cons a3 b3 => cases b3 with | cons a4 b4 => cases b4 with | nil =>
    obtain ⟨x0, rfl, _⟩ := a0
    obtain ⟨x1, rfl, w1⟩ := a1
    obtain ⟨x2, rfl, w2⟩ := a2
    obtain ⟨x3, rfl, _⟩ := a3
    obtain ⟨x4, rfl, _⟩ := a4
    obtain ⟨m1, rfl, q1⟩ := mask_nat w1
    obtain ⟨m2, rfl, q2⟩ := mask_nat w2
    exact ⟨⟨x0, m1, m2, x3, x4⟩, rfl, q1, q2⟩) hv h
end Go.Proofs.YtclmmfkbkaldlaaDoor

/- An atlas in memory: the struct, its nodes, the map of places; what stays when other blocks turn. -/
import Derived.Test.YtclmmfkbkaldlaaDoorMask
import Derived.Test.YtclmmfkbkaldlaaDoorSame
import Derived.Maps.OwnSet
import Derived.Maps.Views
namespace Go.Proofs.YtclmmfkbkaldlaaDoor
open Go.RowKit
open Go.Maps (Keyed)

/-! ### the map of places -/
abbrev mkey (m : Nat) : Lit := .int .u32 m
theorem maskKeyed : Keyed Tryd.prog 33 := Go.Maps.int_keyed Tryd.underlying33
theorem mwf {m : Nat} (h : m < 4294967296) : (Lit.int .u32 (m : Int)).wf = true := WalkArith.wf_u32 (by omega)
theorem mkeyOf {m : Nat} (h : m < 4294967296) : keyOf Tryd.prog 33 (.int .u32 m) = some (mkey m) := Go.Maps.keyOf_int_mk Tryd.underlying33 (mwf h)
theorem mkey_isKey (m : Nat) : WideAt.IsKeyLit (mkey m) := trivial
theorem mkey_ne {m k : Nat} (h : m ≠ k) : mkey m ≠ mkey k := fun e => by injection e with _ e; omega
theorem zeroInt (w : World) : (zeroValue 3).run Tryd.prog w = .ok (.int .i64 0) w := by kernel_rfl

/-- block b is a map that gives each of the sets its place -/
def MapIs (w : World) (b : Nat) (ms : List Nat) : Prop :=
  ∃ (D : DataW Unit) (n : Nat), w.ownsMap Tryd.prog 33 (plainElem Tryd.prog 3) b n D ∧ n ≤ ms.length ∧
    ∀ m : Nat, m < 4294967296 → Go.Maps.has D (mkey m) = decide (m ∈ ms) ∧ ∀ z, m ∈ ms → D.atKey (mkey m) z = .lit (.int .i64 (ms.idxOf m : Nat))
theorem MapIs.lt {w : World} {b : Nat} {ms : List Nat} (h : MapIs w b ms) : b < w.heap.size := by
  obtain ⟨D, n, h, _⟩ := h
  exact h.lt
theorem MapIs.of_heap {w w' : World} {b : Nat} {ms : List Nat} (h : MapIs w b ms) (hb : w'.heap[b]? = w.heap[b]?) : MapIs w' b ms := by
  obtain ⟨D, n, ⟨es, clock, h0, F, hs, hD⟩, h2⟩ := h
  exact ⟨D, n, ⟨es, clock, hb.trans h0, F, hs, hD⟩, h2⟩
theorem MapIs.fr {w w' : World} {b : Nat} {ms : List Nat} {T : List Nat} (h : MapIs w b ms) (hf : Fr T w w') (hd : b ∉ T) : MapIs w' b ms := h.of_heap (hf.block b h.lt hd)
theorem MapIs.made (w : World) : MapIs (w.alloc (.map #[] 0)) w.heap.size [] := ⟨.map [], 0, World.ownsMap_made _ _ _ _, Nat.le_refl _, fun m _ => ⟨rfl, fun z h => by cases h⟩⟩
theorem MapIs.look {w : World} {b : Nat} {ms : List Nat} (h : MapIs w b ms) {m : Nat} (hm : m < 4294967296) :
    (Instr.lookup 64 (.map (some b)) (.int .u32 m) true).run Tryd.prog w = .ok (.tuple #[.int .i64 (if m ∈ ms then (ms.idxOf m : Nat) else 0 : Int), .bool (decide (m ∈ ms))]) w := by
  obtain ⟨D, n, ho, _, hA⟩ := h
  obtain ⟨h1, h2⟩ := hA m hm
  obtain ⟨v, ps, hrun, hv⟩ := ho.look_ok maskKeyed Tryd.underlying64 (zeroInt w) (zd := .lit (.int .i64 0)) (zp := []) (plainElem_int Tryd.underlying3 (by decide)) (mkeyOf hm)
  rw [hrun, h1]
  obtain ⟨c, rfl, hc, _⟩ := plainElem_int_inv Tryd.underlying3 hv
  suffices key : c = (if m ∈ ms then (ms.idxOf m : Nat) else 0 : Int) by rw [key]
  by_cases hin : m ∈ ms
  · rw [h2 _ hin] at hc
    simp only [Prod.mk.injEq, DataW.lit.injEq, Lit.int.injEq] at hc
    rw [if_pos hin]
    exact hc.1.2.symm
  · rw [if_neg hin]
    rw [decide_eq_false hin] at h1
    rw [Go.Maps.atKey_of_not_has h1] at hc
    simp only [Prod.mk.injEq, DataW.lit.injEq, Lit.int.injEq] at hc
    exact hc.1.2.symm
theorem MapIs.store {w : World} {b : Nat} {ms : List Nat} (h : MapIs w b ms) {m : Nat} (hm : m < 4294967296) (hn : m ∉ ms) (hl : ms.length ≤ 1000000) :
    ∃ w', (Instr.mapUpdate 64 (.map (some b)) (.int .u32 m) (.int .i64 (ms.length : Nat))).run Tryd.prog w = .ok () w' ∧ MapIs w' b (ms ++ [m]) ∧ w.grownBy w' (some b) := by
  obtain ⟨D, n, ho, hn2, hA⟩ := h
  have hid := ho.isMap
  obtain ⟨w', hrun, ho', hg⟩ := ho.update maskKeyed Tryd.underlying64 (by unfold maxLen; omega) (mkeyOf hm) (d := .lit (.int .i64 (ms.length : Nat))) (ps := []) (val := .int .i64 (ms.length : Nat)) (plainElem_int Tryd.underlying3 (WalkArith.wf_i64 (by omega)))
  refine ⟨w', hrun, ⟨_, n + 1, ho', by simp; omega, fun k hk => ?_⟩, hg⟩
  by_cases hkm : k = m
  · subst hkm
    refine ⟨by rw [Go.Maps.has_put_same hid (mkey_isKey _)]; simp, fun z _ => ?_⟩
    rw [Go.Maps.atKey_put_same hid (mkey_isKey _), List.idxOf_append, if_neg hn]
    simp
  · obtain ⟨h1, h2⟩ := hA k hk
    refine ⟨by rw [Go.Maps.has_put_other (mkey_ne hkm), h1]; simp [hkm], fun z hz => ?_⟩
    have hz' : k ∈ ms := by simpa [hkm] using hz
    rw [Go.Maps.atKey_put_other (mkey_ne hkm), h2 z hz', List.idxOf_append, if_pos hz']

/-! ### a node -/
structure Nd where
  m : Nat
  a : List Int
  b : List Int
def ndCells (x : Nd) : Array Value := (Value.int .u32 x.m :: (ints x.a ++ ints x.b)).toArray
/-- the edges of a node among the sets -/
structure Nd.Ok (x : Nd) (cn : Nat) (ms : List Nat) : Prop where
  la : x.a.length = 16
  lb : x.b.length = 16
  ea : ∀ c, c < cn → x.a[c]? = some (-1) ∨ ∃ j : Nat, x.a[c]? = some (j : Int) ∧ ms[j]? = some (wth x.m c)
  eb : ∀ c, c < cn → x.b[c]? = some (-1) ∨ ∃ j : Nat, x.b[c]? = some (j : Int) ∧ ms[j]? = some (wout x.m c)
theorem ndCells_0 (x : Nd) : (ndCells x)[0]? = some (.int .u32 x.m) := by simp [ndCells]
theorem ndCells_a {x : Nd} {c : Nat} {v : Int} (hv : x.a[c]? = some v) : (ndCells x)[1 + c]? = some (.int .i64 v) := by
  have hlt := (List.getElem?_eq_some_iff.1 hv).1
  have hv' : x.a[c] = v := by simpa [hlt] using hv
  simp [ndCells, Nat.add_comm 1 c, List.getElem?_append_left, ints, hlt, hv']
theorem ndCells_b {x : Nd} (hl : x.a.length = 16) {c : Nat} {v : Int} (hv : x.b[c]? = some v) : (ndCells x)[17 + c]? = some (.int .i64 v) := by
  have e : 17 + c = (16 + c) + 1 := by omega
  simp [ndCells, e, List.getElem?_append_right, ints, hl, hv]
theorem ndCells_setA {x : Nd} {c : Nat} (hc : c < x.a.length) (v : Int) : (ndCells x).setIfInBounds (1 + c) (.int .i64 v) = ndCells { x with a := x.a.set c v } := by
  unfold ndCells
  rw [Nat.add_comm]
  simp [List.set_append, ints, hc, List.map_set]
theorem ndCells_setB {x : Nd} (hl : x.a.length = 16) (c : Nat) (v : Int) : (ndCells x).setIfInBounds (17 + c) (.int .i64 v) = ndCells { x with b := x.b.set c v } := by
  unfold ndCells
  have e : 17 + c = (16 + c) + 1 := by omega
  rw [e]
  simp [List.set_append, ints, hl, List.map_set]

/-! ### the atlas -/
structure AtlS (B : Nat) (w : World) (g cn bm : Nat) (vN : Value) (ns : List (Nat × Nd)) : Prop where
  ge : B ≤ g
  blk : Blk w g 67 #[.int .i64 cn, vN, .map (some bm)]
  row : w.ownsRow B 70 1 vN ns.length (ns.map fun x => .pointer (some ⟨x.1, 0, none⟩))
  nd : ∀ x ∈ ns, Blk w x.1 75 (ndCells x.2) ∧ B ≤ x.1
  mge : B ≤ bm
  map : MapIs w bm (ns.map (·.2.m))
  cn16 : cn ≤ 16
  apart : (g :: bm :: (vN.ownBlock.toList ++ ns.map (·.1))).Nodup
  sets : (ns.map (·.2.m)).Nodup
  small : ∀ x ∈ ns, x.2.m < 2 ^ cn
  ok : ∀ x ∈ ns, x.2.Ok cn (ns.map (·.2.m))
/-- An atlas at block g: of cn components, with the sets ms; S: its blocks. -/
def AtlR (B : Nat) (w : World) (g cn : Nat) (ms : List Nat) (S : List Nat) : Prop :=
  ∃ bm vN ns, AtlS B w g cn bm vN ns ∧ ms = ns.map (·.2.m) ∧ S = g :: bm :: (vN.ownBlock.toList ++ ns.map (·.1))
section
variable {B : Nat} {w w' : World} {g cn : Nat} {ms : List Nat} {S T : List Nat}
theorem AtlR.lt (h : AtlR B w g cn ms S) : ∀ b ∈ S, b < w.heap.size ∧ B ≤ b := by
  obtain ⟨bm, vN, ns, h, rfl, rfl⟩ := h
  intro b hb
  simp only [List.mem_cons, List.mem_append, Option.mem_toList, List.mem_map] at hb
  rcases hb with rfl | rfl | hb | ⟨x, hx, rfl⟩
  · exact ⟨h.blk.lt, h.ge⟩
  · exact ⟨h.map.lt, h.mge⟩
  · exact row_lt h.row hb
  · exact ⟨(h.nd x hx).1.lt, (h.nd x hx).2⟩
theorem AtlR.fr (h : AtlR B w g cn ms S) (hf : Fr T w w') (hd : ∀ b ∈ S, b ∉ T) : AtlR B w' g cn ms S := by
  obtain ⟨bm, vN, ns, h, rfl, rfl⟩ := h
  refine ⟨bm, vN, ns, ⟨h.ge, h.blk.fr hf (hd _ (by simp)), row_fr h.row hf (fun k hk => hd k (by simp [hk])), fun x hx => ⟨(h.nd x hx).1.fr hf (hd _ ?_), (h.nd x hx).2⟩, h.mge, h.map.fr hf (hd _ (by simp)), h.cn16, h.apart, h.sets, h.small, h.ok⟩, rfl, rfl⟩
  exact List.mem_cons_of_mem _ (List.mem_cons_of_mem _ (List.mem_append_right _ (List.mem_map_of_mem hx)))
theorem AtlR.fr0 (h : AtlR B w g cn ms S) (hf : Fr [] w w') : AtlR B w' g cn ms S := h.fr hf (by simp)
theorem AtlR.cn16 (h : AtlR B w g cn ms S) : cn ≤ 16 := by obtain ⟨bm, vN, ns, h, rfl, rfl⟩ := h; exact h.cn16
theorem AtlR.nodup (h : AtlR B w g cn ms S) : ms.Nodup := by obtain ⟨bm, vN, ns, h, rfl, rfl⟩ := h; exact h.sets
theorem AtlR.small (h : AtlR B w g cn ms S) : ∀ m ∈ ms, m < 2 ^ cn := by
  obtain ⟨bm, vN, ns, h, rfl, rfl⟩ := h
  intro m hm
  obtain ⟨x, hx, rfl⟩ := List.mem_map.1 hm
  exact h.small x hx
end
end Go.Proofs.YtclmmfkbkaldlaaDoor

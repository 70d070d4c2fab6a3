/- JournalOnce: plain lists, what holds on the way. -/
import Derived.Test.YtioeafjlbdpjoaaDoorPlainSt
import Derived.Test.YtioeafjlbdpjoaaDoorAwakeJ
import Derived.Test.YtioeafjlbdpjoaaDoorActJ
import Derived.Test.YtioeafjlbdpjoaaDoorRest
import Derived.Test.YtioeafjlbdpjoaaDoorBackF
import Derived.Test.YtioeafjlbdpjoaaDoorStackW
namespace Go.Proofs.YtioeafjlbdpjoaaDoor
open Go.RowKit
def onceL (id c n : Int) : List Un := [⟨1, id, ⟨c, 0, 0, 0, 0, 1⟩, [], 0, 0⟩, ⟨6, 0, ⟨0, 0, 0, 0, 0, 0⟩, [], n, 1⟩, ⟨7, 0, ⟨0, 0, 0, 0, 0, 0⟩, [], 0, 1⟩, ⟨8, 0, ⟨0, 0, 0, 0, 0, 0⟩, [], 0, 1⟩, ⟨9, 0, ⟨0, 0, 0, 0, 0, 0⟩, [], 0, 1⟩]
def bumpU (i : Int) (x : Un) : Un := ⟨x.kind, x.id, ⟨x.p.c, x.p.v0, x.p.v1, x.p.v2, x.p.v3, x.p.t + i⟩, x.ps, x.n, x.old + i⟩
def usAt (L : List Un) (i k : Nat) : List Un := if i = 0 then L.take k else L
theorem once_item {id c n : Int} {k : Nat} {X : Un} (h : (onceL id c n)[k]? = some X) : (1 ≤ X.kind ∧ X.kind ≤ 9) ∧ X.ps = [] ∧ (0 ≤ X.old ∧ X.old ≤ 1) ∧ (0 ≤ X.p.t ∧ X.p.t ≤ 1) := by
  have := List.mem_of_getElem? h
  simp only [onceL, List.mem_cons, List.not_mem_nil, or_false] at this
  rcases this with rfl | rfl | rfl | rfl | rfl <;> simp
theorem once_new {id c n : Int} {k : Nat} {X : Un} (f : Int) (h : (onceL id c n)[k]? = some X) : stale ⟨f, (onceL id c n).take k⟩ (bumpU 0 X) = false := by
  have hk : k < 5 := (List.getElem?_eq_some_iff.1 h).1
  match k, hk with
  | 0, _ => cases h; simp [stale, onceL, bumpU, othersK, ownK]
  | 1, _ => cases h; simp [stale, onceL, bumpU, othersK, ownK]
  | 2, _ => cases h; simp [stale, onceL, bumpU, othersK, ownK]
  | 3, _ => cases h; simp [stale, onceL, bumpU, othersK, ownK]
  | 4, _ => cases h; simp [stale, onceL, bumpU, othersK, ownK]
theorem once_old {id c n : Int} {k : Nat} {X : Un} (f i : Int) (h : (onceL id c n)[k]? = some X) : stale ⟨f, onceL id c n⟩ (bumpU i X) = true := by
  have := List.mem_of_getElem? h
  simp only [onceL, List.mem_cons, List.not_mem_nil, or_false] at this
  rcases this with rfl | rfl | rfl | rfl | rfl <;> simp [stale, onceL, bumpU, othersK, ownK]
theorem bump_zero (x : Un) : bumpU 0 x = x := by
  obtain ⟨_, _, ⟨_, _, _, _, _, _⟩, _, _, _⟩ := x
  simp [bumpU]
theorem usAt_step {L : List Un} {k : Nat} {X : Un} (h : L[k]? = some X) : usAt L 0 (k + 1) = usAt L 0 k ++ [X] := by
  have hk := (List.getElem?_eq_some_iff.1 h).1
  unfold usAt
  rw [if_pos rfl, if_pos rfl, List.take_add_one, h]
  rfl
theorem usAt_pos {L : List Un} {i k : Nat} (h : i ≠ 0) : usAt L i k = L := if_neg h
theorem usAt_zero (L : List Un) (k : Nat) : usAt L 0 k = L.take k := if_pos rfl
theorem usAt_le (L : List Un) (i k : Nat) : (usAt L i k).length ≤ L.length := by
  unfold usAt
  split
  · rw [List.length_take]; omega
  · exact Nat.le_refl _
theorem usAt_all {L : List Un} (i : Nat) : usAt L i L.length = L := by
  unfold usAt
  split
  · exact List.take_length
  · rfl
/-- the frames that are done -/
def fsts (L : List Un) (f : Nat) : List St := (List.range f).map fun j : Nat => (⟨(j : Int), L⟩ : St)
theorem fsts_succ (L : List Un) (f : Nat) : fsts L (f + 1) = fsts L f ++ [⟨(f : Int), L⟩] := by
  unfold fsts
  rw [List.range_succ, List.map_append]
  rfl
theorem fsts_len (L : List Un) (f : Nat) : (fsts L f).length = f := by simp [fsts]
theorem fsts_mark (L : List Un) {f : Nat} (hf : f ≤ 2) : MarkOk (fsts L f) (f : Int) := by
  refine ⟨by omega, by omega, fun s hs => ?_⟩
  cases f with
  | zero => simp [fsts] at hs
  | succ f =>
    rw [fsts_succ, List.getLast?_concat] at hs
    cases hs
    show (f : Int) < ((f + 1 : Nat) : Int)
    omega
theorem fsts_place (L us : List Un) {f : Nat} (hf : f ≤ 1) : placeOf ((fsts L f ++ [(⟨(f : Int), us⟩ : St)]).map fun s : St => s.fr) (f : Int) = some f := by
  match f, hf with
  | 0, _ => rfl
  | 1, _ => rfl
def onceR (L : List Un) : List Value := (L.map fun u => (⟨u, none, 0⟩ : Ud)).flatMap Ud.cells
structure OW (w : World) (g lb : Nat) (L : List Un) (sts : List St) (size : Int) (S : List Nat) (wr : World) : Prop where
  jr : JR w.heap.size wr g sts 100 size S
  blk : Blk wr lb 37 (onceR L).toArray
  no : lb ∉ S
  fr : Fr [] w wr
section
variable {w wr w' : World} {g lb : Nat} {L : List Un} {sts sts' : List St} {size size' : Int} {S S' : List Nat}
theorem OW.stp (h : OW w g lb L sts size S wr) (hj : JR w.heap.size w' g sts' 100 size' S') (hst : Stp S S' wr w') : OW w g lb L sts' size' S' w' :=
  ⟨hj, h.blk.fr hst.1 h.no, hst.out h.blk.lt h.no, h.fr.step hst.1 fun x hx => .inr (h.jr.ge x hx).1⟩
theorem OW.fr0 (h : OW w g lb L sts size S wr) (hf : Fr [] wr w') : OW w g lb L sts size S w' := ⟨h.jr.fr0 hf, h.blk.fr0 hf, h.no, h.fr.trans hf⟩
theorem OW.cell (h : OW w g lb L sts size S wr) {k j : Nat} {X : Un} {v : Value} (hX : L[k]? = some X) (hj : j < 11) (hv : (Ud.cells ⟨X, none, 0⟩)[j]? = some v) : wr.cell? ⟨lb, k * 11 + j, none⟩ = some v :=
  h.blk.at_ (k * 11 + j) (by
    rw [List.getElem?_toArray]
    unfold onceR
    rw [flat_get (k := 11) (x := (⟨X, none, 0⟩ : Ud)) Ud.cells_len (by rw [List.getElem?_map, hX]; rfl) j hj]
    exact hv)
end
theorem note_lit2 {K : List Nat} {B0 B : Nat} {w : World} {ad : Nat → Addr} (hK : KJ K) (hs : Sents K B0 w ad) {g : Nat} {sts : List St} {s : St} {most size : Int} {S : List Nat} (h : JR B w g (sts ++ [s]) most size S) (hB : B ≤ w.heap.size) (hn : sts.length ≤ 99999)
    (hsz0 : 0 ≤ size) (hsz1 : size ≤ 65536) (hus : s.us.length ≤ 65536) {k id c v0 v1 v2 v3 t n old : Int} (hk1 : 1 ≤ k) (hk2 : k ≤ 9) :
    Calls Tryd.prog 10 #[ptr g, .agg #[.int .i64 k, .int .i64 id, .int .i64 c, .int .i64 v0, .int .i64 v1, .int .i64 v2, .int .i64 v3, .int .i64 t, .slice none 0 0, .int .i64 n, .int .i64 old]] w (NotePost B w ad g sts s ⟨k, id, ⟨c, v0, v1, v2, v3, t⟩, [], n, old⟩ most size S) :=
  note_calls hK hs h hB hn hsz0 hsz1 hus (good := fun _ => True) (d := ⟨⟨k, id, ⟨c, v0, v1, v2, v3, t⟩, [], n, old⟩, none, 0⟩) (PsOk.empty rfl fun _ => rfl) hk1 hk2
end Go.Proofs.YtioeafjlbdpjoaaDoor

/- Acts of the statements of layer 10, opened; a call of badges whatever its answer. -/
import Derived.Test.YtpipgkglacmoeaaDoorBAwake
import Derived.Test.YtpipgkglacmoeaaDoorLeaf
namespace Go.Proofs.YtpipgkglacmoeaaDoor
open Go.ChangeShapes Go.WideShapes Go.ChangeAt Go.RowKit Go.Deep
structure Ac where
  k : Int
  e1 : Int
  e2 : Int
  n : Int
def encA (a : Ac) : List Value := [.int .i64 a.k, .int .i64 a.e1, .int .i64 a.e2, .int .i64 a.n]
theorem encA_len (a : Ac) : (encA a).length = 4 := rfl
theorem actLeaves : leaves Tryd.prog 5 29 = some [.int .i64, .int .i64, .int .i64, .int .i64] := by kernel_rfl
theorem actCells : Tryd.prog.cellsOf 29 = 4 := by kernel_rfl
section
variable {H : Type} {enc : TypeId × Value → H} {W : World} {base : Nat} {spare : Nat → Bool} {held : Bool} {v : Value} {d : DataW H} {ps : List MemPlace} {r : Reach} {b0 : Nat}
set_option maxRecDepth 100000 in
theorem open_acts (hv : Value.okWide Tryd.prog W r b0 22 v) (h : DataW.Trod enc Tryd.prog W base spare held 22 v d ps) :
    ∃ (A : Option Addr) (n c : Nat) (l : List Ac), v = .slice A n c ∧ l.length = n ∧ n ≤ maxLen ∧ (∀ m ∈ l, True) ∧ Reads W W.heap.size 4 A n (l.flatMap encA) :=
  open_list (k := 4) encA (fun _ => True) encA_len Tryd.underlying22 actCells (by omega) (fun n cs x h => by
    have h4 := leaves_ok 5 _ _ _ _ _ actLeaves h
    cases h4 with | cons a0 b0 => cases b0 with | cons a1 b1 => cases b1 with | cons a2 b2 => cases b2 with | cons a3 b3 => cases b3 with | nil =>
    obtain ⟨x0, rfl, _⟩ := a0
    obtain ⟨x1, rfl, _⟩ := a1
    obtain ⟨x2, rfl, _⟩ := a2
    obtain ⟨x3, rfl, _⟩ := a3
    exact ⟨⟨x0, x1, x2, x3⟩, rfl, trivial⟩) hv h
end
section
variable {K : List Nat} {ad : Nat → Addr} {w0 w w' : World} {g : Nat} {ps : List (Int × Ent)} {ds : List Int} {nx : Int} {L : Loc} {n : Nat}
theorem CB.tail {x : Nat × TypeId × Array Value} (h : CB K ad w0 w g ps ds nx (x :: L)) : CB K ad w0 w g ps ds nx L := by
  obtain ⟨S, h1, h2, h3⟩ := h
  exact ⟨S, h1, ⟨h2.sents, fun y hy => h2.loc y (List.mem_cons_of_mem _ hy), h2.lt, h2.fr, h2.new, h2.le⟩, h3⟩
def CN (K : List Nat) (ad : Nat → Addr) (w0 w : World) (g n : Nat) (L : Loc) : Prop := ∃ ps ds nx, CB K ad w0 w g ps ds nx L ∧ ds.length ≤ n
theorem CN.fr0 (h : CN K ad w0 w g n L) (hf : Fr [] w w') : CN K ad w0 w' g n L := by
  obtain ⟨ps, ds, nx, h1, h2⟩ := h
  exact ⟨ps, ds, nx, h1.fr0 hf, h2⟩
def AnyPost (K : List Nat) (ad : Nat → Addr) (w0 : World) (g n : Nat) (L : Loc) (e : Ending) (w' : World) : Prop := (∃ v, e = .returned v) ∧ CN K ad w0 w' g n L
theorem CN.give (h : CN K ad w0 w g n L) (hn : n ≤ 100000) (h9 : 9 ∈ K) (h6 : 6 ∈ K) (e : Ent) : Calls Tryd.prog 9 #[.pointer (some ⟨g, 0, none⟩), encE e] w (AnyPost K ad w0 g (n + 1) L) := by
  obtain ⟨ps, ds, nx, h1, h2⟩ := h
  by_cases he : idOf ps e = none
  · by_cases hx : nx ≤ 1073741824
    · refine (h1.give (by omega) he hx).mono ?_
      rintro e' w' ⟨rfl, hc⟩
      exact ⟨⟨_, rfl⟩, _, _, _, hc, by rw [ins_len]; omega⟩
    · refine (h1.give_err h9 h6 (k := 6) (.inr ⟨he, by omega, rfl⟩)).mono ?_
      rintro e' w' ⟨b, s, rfl, hc⟩
      exact ⟨⟨_, rfl⟩, _, _, _, hc.tail, by omega⟩
  · refine (h1.give_err h9 h6 (k := 9) (.inl ⟨he, rfl⟩)).mono ?_
    rintro e' w' ⟨b, s, rfl, hc⟩
    exact ⟨⟨_, rfl⟩, _, _, _, hc.tail, by omega⟩
theorem CN.pin (h : CN K ad w0 w g n L) (hn : n ≤ 100000) (h9 : 9 ∈ K) (h1' : 1 ∈ K) (id : Int) (e : Ent) : Calls Tryd.prog 10 #[.pointer (some ⟨g, 0, none⟩), .int .i64 id, encE e] w (AnyPost K ad w0 g (n + 1) L) := by
  obtain ⟨ps, ds, nx, h1, h2⟩ := h
  by_cases hr : 1 ≤ id ∧ id < nx
  · by_cases ho : ownOf ps id = none ∧ idOf ps e = none
    · refine (h1.pin (by omega) hr.1 hr.2 ho.1 ho.2).mono ?_
      rintro e' w' ⟨rfl, hc⟩
      exact ⟨⟨_, rfl⟩, _, _, _, hc, by rw [ins_len]; omega⟩
    · refine (h1.pin_err h9 h1' (k := 9) (.inr ⟨hr.1, hr.2, ?_, rfl⟩)).mono ?_
      · by_cases h : ownOf ps id = none
        · exact .inr fun h' => ho ⟨h, h'⟩
        · exact .inl h
      rintro e' w' ⟨b, s, rfl, hc⟩
      exact ⟨⟨_, rfl⟩, _, _, _, hc.tail, by omega⟩
  · refine (h1.pin_err h9 h1' (k := 1) (.inl ⟨by omega, rfl⟩)).mono ?_
    rintro e' w' ⟨b, s, rfl, hc⟩
    exact ⟨⟨_, rfl⟩, _, _, _, hc.tail, by omega⟩
theorem CN.drop (h : CN K ad w0 w g n L) (hn : n ≤ 100000) (h7 : 7 ∈ K) (id : Int) : Calls Tryd.prog 11 #[.pointer (some ⟨g, 0, none⟩), .int .i64 id] w (AnyPost K ad w0 g (n + 1) L) := by
  obtain ⟨ps, ds, nx, h1, h2⟩ := h
  cases ho : ownOf ps id with
  | some e =>
    refine (h1.drop (by omega) ho).mono ?_
    rintro e' w' ⟨rfl, hc⟩
    exact ⟨⟨_, rfl⟩, _, _, _, hc, Nat.le_trans (List.length_filter_le ..) (by omega)⟩
  | none =>
    refine (h1.drop_err h7 ho).mono ?_
    rintro e' w' ⟨b, s, rfl, hc⟩
    exact ⟨⟨_, rfl⟩, _, _, _, hc.tail, by omega⟩
theorem CN.turn (h : CN K ad w0 w g n L) (hn : n ≤ 100000) (h1' : 1 ∈ K) (next : Int) : Calls Tryd.prog 12 #[.pointer (some ⟨g, 0, none⟩), .int .i64 next] w (AnyPost K ad w0 g (n + 1) L) := by
  obtain ⟨ps, ds, nx, h1, h2⟩ := h
  by_cases hr : next < 1 ∨ 1073741825 < next ∨ turnB ds next = true
  · refine (h1.turn_err h1' (by omega) hr).mono ?_
    rintro e' w' ⟨b, s, rfl, hc⟩
    exact ⟨⟨_, rfl⟩, _, _, _, hc.tail, by omega⟩
  · have hl : turnB ds next = false := by
      cases h : turnB ds next with
      | false => rfl
      | true => exact absurd (.inr (.inr h)) hr
    refine (h1.turn (by omega) (by omega) (by omega) hl).mono ?_
    rintro e' w' ⟨rfl, hc⟩
    exact ⟨⟨_, rfl⟩, _, _, _, hc, by omega⟩
theorem Good.look (h : Good ps ds nx) {k : Nat} {d : Int} (hd : ds[k]? = some d) : ∃ e, ownOf ps d = some e ∧ idOf ps e = some d ∧ 1 ≤ d ∧ d < nx ∧ ∀ m d', k = m + 1 → ds[m]? = some d' → d' < d := by
  have hm := List.mem_of_getElem? hd
  obtain ⟨p, hp, he⟩ := List.mem_map.mp ((h.same d).mp hm)
  obtain ⟨d1, e⟩ := p
  simp only at he
  subst he
  obtain ⟨p1, p2⟩ := h.pos d1 hm
  refine ⟨e, own_of_mem h.ids hp, id_of_mem h.ents hp, p1, p2, fun m d' hk hd' => ?_⟩
  subst hk
  have q1 := List.getElem?_eq_some_iff.1 hd
  have q2 := List.getElem?_eq_some_iff.1 hd'
  have := List.pairwise_iff_getElem.mp h.sorted m (m + 1) q2.1 q1.1 (by omega)
  rw [q1.2, q2.2] at this
  exact this
end
end Go.Proofs.YtpipgkglacmoeaaDoor

/- A laid variable of plain leaves (whole numbers, bools, strings in structs and arrays): its datum tells its cells. -/
import Derived.Test.YtnncbmbepdkfnaaDoorLeaf
namespace Go.Proofs.YtnncbmbepdkfnaaDoor
open Go.ChangeShapes Go.WideShapes Go.ChangeAt Go.RowKit Go.Deep

section
variable {H : Type}
def plainF (P : Program) (rec : TypeId → DataW H → Option (List Value)) : List Field → List (DataW H) → Nat → Option (List Value)
  | [], [], _ => some []
  | f :: fs, d :: ds, off => if f.offset = off then (rec f.type d).bind fun c => if P.cellsOf f.type = c.length then (plainF P rec fs ds (off + c.length)).map (c ++ ·) else none else none
  | _, _, _ => none
def plainA (n : Nat) (rec : DataW H → Option (List Value)) : List (DataW H) → Option (List Value)
  | [] => some []
  | d :: ds => (rec d).bind fun c => if n = c.length then (plainA n rec ds).map (c ++ ·) else none
def plainCells (P : Program) : Nat → TypeId → DataW H → Option (List Value)
  | 0, _, _ => none
  | n + 1, t, d => match P.underlying t, d with
    | some (.int k), .lit (.int k' m) => if k = k' then some [.int k m] else none
    | some .bool, .lit (.bool b) => some [.bool b]
    | some .string, .lit (.string s) => some [.string ⟨s.toArray⟩]
    | some (.struct fs), .agg ds => (plainF P (plainCells P n) fs.toList ds 0).bind fun c => if P.cellsOf t = c.length then some c else none
    | some (.array m e), .agg ds => (plainA (P.cellsOf e) (plainCells P n e) ds).bind fun c => if ds.length = m ∧ P.cellsOf t = c.length then some c else none
    | _, _ => none
variable {P : Program} {enc : TypeId × Value → H} {W : World} {base : Nat} {spare : Nat → Bool} {held : Bool}
theorem plainF_ok {rec : TypeId → DataW H → Option (List Value)} {m : Nat} {cs : List Value} (hrec : ∀ t d ks cs' p, rec t d = some ks → DataW.trod enc P W base spare held m t cs' = some (d, p) → cs' = ks) :
    ∀ (l : List Field) (ds : List (DataW H)) (off : Nat) (ks : List Value), plainF P rec l ds off = some ks → (∀ (i : Nat) f d, l[i]? = some f → ds[i]? = some d → ∃ p, DataW.trod enc P W base spare held m f.type ((cs.drop f.offset).take (P.cellsOf f.type)) = some (d, p)) → (cs.drop off).take ks.length = ks
  | [], [], off, ks, h, _ => by
    simp only [plainF, Option.some.injEq] at h
    subst h
    rfl
  | f :: fs, d :: ds, off, ks, h, hall => by
    unfold plainF at h
    split at h
    · rename_i hoff
      obtain ⟨k1, hk1, h⟩ := Option.bind_eq_some_iff.1 h
      split at h
      · rename_i hsz
        obtain ⟨k2, hk2, rfl⟩ := Option.map_eq_some_iff.1 h
        obtain ⟨p, hp⟩ := hall 0 f d rfl rfl
        have a1 := hrec _ _ _ _ _ hk1 hp
        have a2 := plainF_ok hrec fs ds _ k2 hk2 (fun i g e hg he => hall (i + 1) g e (by simpa using hg) (by simpa using he))
        rw [hoff, hsz] at a1
        rw [List.length_append, ← take_add_drop, a1, a2]
      · cases h
    · cases h
  | [], _ :: _, _, _, h, _ => by simp [plainF] at h
  | _ :: _, [], _, _, h, _ => by simp [plainF] at h
theorem plainA_ok {n : Nat} {rec : DataW H → Option (List Value)} {m : Nat} {e : TypeId} (hrec : ∀ d ks cs' p, rec d = some ks → DataW.trod enc P W base spare held m e cs' = some (d, p) → cs' = ks) :
    ∀ (ds : List (DataW H)) (ks cs : List Value), plainA n rec ds = some ks → (∀ (i : Nat) d, ds[i]? = some d → ∃ p, DataW.trod enc P W base spare held m e ((cs.drop (i * n)).take n) = some (d, p)) → cs.take ks.length = ks
  | [], ks, cs, h, _ => by
    simp only [plainA, Option.some.injEq] at h
    subst h
    rfl
  | d :: ds, ks, cs, h, hall => by
    unfold plainA at h
    obtain ⟨k1, hk1, h⟩ := Option.bind_eq_some_iff.1 h
    split at h
    · rename_i hsz
      obtain ⟨k2, hk2, rfl⟩ := Option.map_eq_some_iff.1 h
      obtain ⟨p, hp⟩ := hall 0 d rfl
      have a1 := hrec _ _ _ _ hk1 hp
      rw [Nat.zero_mul, List.drop_zero, hsz] at a1
      have a2 := plainA_ok hrec ds k2 (cs.drop n) hk2 (fun i e he => by
        obtain ⟨p, hp⟩ := hall (i + 1) e (by simpa using he)
        refine ⟨p, ?_⟩
        rw [List.drop_drop]
        rw [Nat.succ_mul, Nat.add_comm] at hp
        exact hp)
      rw [List.length_append, List.take_add, a1, ← hsz, a2]
    · cases h
theorem plain_ok : ∀ (n : Nat) (t : TypeId) (d : DataW H) (ks : List Value) (fuel : Nat) (cs : List Value) (p : List MemPlace), plainCells P n t d = some ks → DataW.trod enc P W base spare held fuel t cs = some (d, p) → cs = ks
  | 0, _, _, _, _, _, _, h, _ => by simp [plainCells] at h
  | n + 1, t, d, ks, fuel, cs, p, h, ht => by
    unfold plainCells at h
    split at h
    · rename_i k k' m hu
      split at h
      · simp only [Option.some.injEq] at h
        subst h
        obtain ⟨m', rfl, e, _⟩ := DataW.trod_int hu ht
        simp only [Prod.mk.injEq, DataW.lit.injEq, Lit.int.injEq] at e
        rw [e.1.2]
      · cases h
    · rename_i b hu
      simp only [Option.some.injEq] at h
      subst h
      obtain ⟨b', rfl, e⟩ := DataW.trod_bool hu ht
      simp only [Prod.mk.injEq, DataW.lit.injEq, Lit.bool.injEq] at e
      rw [e.1]
    · rename_i s hu
      simp only [Option.some.injEq] at h
      subst h
      obtain ⟨s', rfl, e, _⟩ := DataW.trod_string hu ht
      simp only [Prod.mk.injEq, DataW.lit.injEq, Lit.string.injEq] at e
      rw [e.1]
    · rename_i fs ds hu
      obtain ⟨k1, hk1, h⟩ := Option.bind_eq_some_iff.1 h
      split at h
      · rename_i hsz
        simp only [Option.some.injEq] at h
        subst h
        obtain ⟨xs, m, rfl, e, hcl, hlen, hf⟩ := DataW.trod_struct hu ht
        simp only [Prod.mk.injEq, DataW.agg.injEq] at e
        have := plainF_ok (P := P) (enc := enc) (W := W) (base := base) (spare := spare) (held := held) (m := m) (cs := cs) (fun t' d' ks' cs' p' h1 h2 => plain_ok n t' d' ks' m cs' p' h1 h2) fs.toList ds 0 k1 hk1 (by
          intro i f d' hi hd
          have hi' : fs[i]? = some f := by simpa using hi
          rw [e.1, List.getElem?_map, Option.map_eq_some_iff] at hd
          obtain ⟨x, hx, rfl⟩ := hd
          exact ⟨x.2, (hf i f hi').trans hx⟩)
        rwa [List.drop_zero, ← hsz, ← hcl, List.take_length] at this
      · cases h
    · rename_i m e ds hu
      obtain ⟨k1, hk1, h⟩ := Option.bind_eq_some_iff.1 h
      split at h
      · rename_i hsz
        simp only [Option.some.injEq] at h
        subst h
        obtain ⟨xs, f, rfl, e', hcl, hlen, hf⟩ := DataW.trod_array hu ht
        simp only [Prod.mk.injEq, DataW.agg.injEq] at e'
        have := plainA_ok (P := P) (enc := enc) (W := W) (base := base) (spare := spare) (held := held) (m := f) (e := e) (fun d' ks' cs' p' h1 h2 => plain_ok n e d' ks' f cs' p' h1 h2) ds k1 cs hk1 (by
          intro i d' hd
          have hlt := (List.getElem?_eq_some_iff.1 hd).1
          rw [e'.1, List.getElem?_map, Option.map_eq_some_iff] at hd
          obtain ⟨x, hx, rfl⟩ := hd
          exact ⟨x.2, (hf i (by omega)).trans hx⟩)
        rwa [← hsz.2, ← hcl, List.take_length] at this
      · cases h
    · cases h
end
/-- the first of the laid variables, and the others -/
theorem laid_first {P : Program} {W : World} {nm : String} {d : DataW Unit} {l : List (String × DataW Unit)} (h : laidMet P ((nm, d) :: l) W) {n g t : Nat} {ks : List Value} (hg : P.globalNamed nm = some g) (ht : (P.globals[g]?).map (·.type) = some t) (hk : plainCells P n t d = some ks) :
    (∀ i, W.cell? ⟨g, i, none⟩ = ks[i]?) ∧ laidMet P l W := by
  obtain ⟨ps, hv, hnd, hrows⟩ := h
  obtain ⟨g', t', cs, fuel, p, q, hg0, ht0, hv0, hd0, hq, rfl⟩ := hv
  obtain rfl := Option.some.inj (hg.symm.trans hg0)
  obtain rfl := Option.some.inj (ht.symm.trans ht0)
  have hcs := plain_ok _ _ _ _ _ _ _ hk hd0
  refine ⟨fun i => ?_, q, hq, ?_, fun b off hm => hrows b off (by simp [hm])⟩
  · rw [World.var?_cell hg hv0 i, ← hcs]
    simp
  · exact List.Nodup.sublist (List.sublist_append_right _ _) hnd
end Go.Proofs.YtnncbmbepdkfnaaDoor

/- An argument's struct opened to its leaves, whatever its shape: whole numbers, bools, strings, and one-cell parts (slices) as they read. -/
import Derived.Test.YtioeafjlbdpjoaaDoorFrame
namespace Go.Proofs.YtioeafjlbdpjoaaDoor
open Go.ChangeShapes Go.WideShapes Go.ChangeAt Go.RowKit Go.Deep

inductive LK where
  | int (k : IntKind)
  | bool
  | string
  | sub (t : TypeId)

def leavesF (P : Program) (rec : TypeId → Option (List LK)) : List Field → Nat → Option (List LK)
  | [], _ => some []
  | f :: fs, off => if f.offset = off ∧ f.offset + P.cellsOf f.type = off + P.cellsOf f.type then
      (rec f.type).bind fun ks => if P.cellsOf f.type = ks.length then (leavesF P rec fs (off + ks.length)).map (ks ++ ·) else none else none
def leaves (P : Program) : Nat → TypeId → Option (List LK)
  | 0, _ => none
  | n + 1, t => match P.underlying t with
    | some (.int k) => some [.int k]
    | some .bool => some [.bool]
    | some .string => some [.string]
    | some (.struct fs) => (leavesF P (leaves P n) fs.toList 0).bind fun ks => if P.cellsOf t = ks.length then some ks else none
    | some (.array m e) => (leaves P n e).bind fun ks => if P.cellsOf e = ks.length ∧ P.cellsOf t = m * ks.length then some (List.replicate m ks).flatten else none
    | some (.slice _) => some [.sub t]
    | _ => none

section
variable {H : Type} (P : Program) (enc : TypeId × Value → H) (W : World) (base : Nat) (spare : Nat → Bool) (held : Bool)
def LK.ok : LK → Value → Prop
  | .int k, v => ∃ n, v = .int k n ∧ (Lit.int k n).wf = true
  | .bool, v => ∃ b, v = .bool b
  | .string, v => ∃ s : ByteArray, v = .string s ∧ s.size ≤ maxLen
  | .sub t, v => ∃ n y, DataW.trod enc P W base spare held n t [v] = some y
inductive AllOk : List LK → List Value → Prop where
  | nil : AllOk [] []
  | cons {k : LK} {v : Value} {ks : List LK} {vs : List Value} : k.ok P enc W base spare held v → AllOk ks vs → AllOk (k :: ks) (v :: vs)
variable {P} {enc} {W} {base} {spare} {held}
theorem AllOk.append {ks ks' : List LK} {vs vs' : List Value} (h : AllOk P enc W base spare held ks vs) (h' : AllOk P enc W base spare held ks' vs') : AllOk P enc W base spare held (ks ++ ks') (vs ++ vs') := by
  induction h with
  | nil => exact h'
  | cons h1 _ ih => exact .cons h1 ih
theorem AllOk.len {ks : List LK} {vs : List Value} (h : AllOk P enc W base spare held ks vs) : vs.length = ks.length := by
  induction h with
  | nil => rfl
  | cons _ _ ih => simp [ih]

theorem take_add_drop (cs : List Value) (off a b : Nat) : (cs.drop off).take a ++ (cs.drop (off + a)).take b = (cs.drop off).take (a + b) := by
  rw [← List.drop_drop, List.take_add]

theorem leavesF_ok {rec : TypeId → Option (List LK)} {m : Nat} {cs : List Value} (hrec : ∀ t ks cs' y, rec t = some ks → DataW.trod enc P W base spare held m t cs' = some y → AllOk P enc W base spare held ks cs') :
    ∀ (l : List Field) (off : Nat) (ks : List LK), leavesF P rec l off = some ks → (∀ f ∈ l, ∃ y, DataW.trod enc P W base spare held m f.type ((cs.drop f.offset).take (P.cellsOf f.type)) = some y) → AllOk P enc W base spare held ks ((cs.drop off).take ks.length)
  | [], off, ks, h, _ => by
    simp only [leavesF, Option.some.injEq] at h
    subst h
    simp only [List.length_nil, List.take_zero]
    exact .nil
  | f :: fs, off, ks, h, hall => by
    unfold leavesF at h
    split at h
    · rename_i hoff
      obtain ⟨k1, hk1, h⟩ := Option.bind_eq_some_iff.1 h
      split at h
      · rename_i hsz
        obtain ⟨k2, hk2, rfl⟩ := Option.map_eq_some_iff.1 h
        obtain ⟨y, hy⟩ := hall f (by simp)
        have a1 := hrec _ _ _ _ hk1 hy
        have a2 := leavesF_ok hrec fs _ k2 hk2 (fun g hg => hall g (by simp [hg]))
        have := a1.append a2
        rwa [hoff.1, hsz, take_add_drop, ← List.length_append] at this
      · cases h
    · cases h

theorem leaves_ok : ∀ (n : Nat) (t : TypeId) (ks : List LK) (fuel : Nat) (cs : List Value) (y : DataW H × List MemPlace), leaves P n t = some ks → DataW.trod enc P W base spare held fuel t cs = some y → AllOk P enc W base spare held ks cs
  | 0, _, _, _, _, _, h, _ => by simp [leaves] at h
  | n + 1, t, ks, fuel, cs, y, h, ht => by
    unfold leaves at h
    split at h
    · rename_i k hu
      simp only [Option.some.injEq] at h
      subst h
      obtain ⟨m, rfl, _, hw⟩ := DataW.trod_int hu ht
      exact .cons ⟨m, rfl, hw⟩ .nil
    · rename_i hu
      simp only [Option.some.injEq] at h
      subst h
      obtain ⟨b, rfl, _⟩ := DataW.trod_bool hu ht
      exact .cons ⟨b, rfl⟩ .nil
    · rename_i hu
      simp only [Option.some.injEq] at h
      subst h
      obtain ⟨s, rfl, _, hs⟩ := DataW.trod_string hu ht
      exact .cons ⟨s, rfl, hs⟩ .nil
    · rename_i fs hu
      obtain ⟨k1, hk1, h⟩ := Option.bind_eq_some_iff.1 h
      split at h
      · rename_i hsz
        simp only [Option.some.injEq] at h
        subst h
        obtain ⟨xs, m, rfl, _, hcl, hlen, hf⟩ := DataW.trod_struct hu ht
        have := leavesF_ok (enc := enc) (W := W) (base := base) (spare := spare) (held := held) (m := m) (cs := cs) (fun t' ks' cs' y' h1 h2 => leaves_ok n t' ks' m cs' y' h1 h2) fs.toList 0 k1 hk1 (by
          intro f hfm
          obtain ⟨i, hi⟩ := List.getElem?_of_mem hfm
          have hi' : fs[i]? = some f := by simpa using hi
          have hlt : i < xs.length := by rw [hlen]; exact (Array.getElem?_eq_some_iff.1 hi').1
          exact ⟨xs[i], (hf i f hi').trans (List.getElem?_eq_getElem hlt)⟩)
        rwa [List.drop_zero, ← hsz, ← hcl, List.take_length] at this
      · cases h
    · rename_i len e hu
      obtain ⟨k1, hk1, h⟩ := Option.bind_eq_some_iff.1 h
      split at h
      · rename_i hsz
        simp only [Option.some.injEq] at h
        subst h
        obtain ⟨xs, m, rfl, _, hcl, hlen, hf⟩ := DataW.trod_array hu ht
        have step : ∀ q, q ≤ len → AllOk P enc W base spare held (List.replicate q k1).flatten (cs.take (q * k1.length)) := by
          intro q
          induction q with
          | zero => intro _; simpa using AllOk.nil
          | succ q ih =>
            intro hq
            have a1 := ih (by omega)
            have hx : xs[q]? = some (xs[q]'(by omega)) := by simp
            have a2 := leaves_ok n e k1 m _ _ hk1 ((hf q (by omega)).trans hx)
            rw [hsz.1] at a2
            have := a1.append a2
            rw [show (q + 1) * k1.length = q * k1.length + k1.length from Nat.succ_mul _ _, List.take_add, List.replicate_succ', List.flatten_append]
            simpa using this
        have := step len (Nat.le_refl _)
        rwa [← hsz.2, ← hcl, List.take_length] at this
      · cases h
    · rename_i e hu
      simp only [Option.some.injEq] at h
      subst h
      have : ∃ v, cs = [v] := by
        rcases open_slice hu ht with ⟨h0, _⟩ | ⟨a, l, c, m, n', D, Pl, h0, _⟩
        · exact ⟨_, h0⟩
        · exact ⟨_, h0⟩
      obtain ⟨v, rfl⟩ := this
      exact .cons ⟨fuel, y, ht⟩ .nil
    · cases h
theorem wf_i64 {n : Int} (h : (Lit.int .i64 n).wf = true) : -9223372036854775808 ≤ n ∧ n ≤ 9223372036854775807 := by
  have h1 : IntKind.i64.min = -9223372036854775808 := rfl
  have h2 : IntKind.i64.max = 9223372036854775807 := rfl
  simp only [Lit.wf, Bool.and_eq_true, decide_eq_true_eq] at h
  omega
end
end Go.Proofs.YtioeafjlbdpjoaaDoor

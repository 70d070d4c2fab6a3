/- How much lies on the stack ahead of each place: in lists and numbers alone. -/
import Derived.Test.YthjakngpegdhmaaDoorTable
namespace Go.Proofs.YthjakngpegdhmaaDoor
open Go.RowKit

structure Ins where
  op : Int
  a : Int
  b : Int
deriving DecidableEq
def encIns (i : Ins) : List Value := [.int .i64 i.op, .int .i64 i.a, .int .i64 i.b]
theorem encIns_len : ∀ i, (encIns i).length = 3 := fun _ => rfl
/-- each is an operation, each jump goes to a place -/
def Valid (L : List Ins) : Prop := ∀ i ∈ L, isOp i.op = true ∧ (jumpsB i.op = true → 0 ≤ i.a ∧ i.a ≤ L.length)
def atL (ds : List Int) (p : Nat) : Int := ds.getD p (-1)
/-- what an instruction leaves on the stack -/
def leaves_ (i : Ins) (d : Int) : Int := d - (rowOf i.op).t + (rowOf i.op).l
theorem row_rng : ∀ r ∈ rowsL, 0 ≤ r.t ∧ r.t ≤ 2 ∧ 0 ≤ r.l ∧ r.l ≤ 3 ∧ 0 ≤ r.a ∧ r.a ≤ 2 := by decide
theorem rowOf_rng (op : Int) : 0 ≤ (rowOf op).t ∧ (rowOf op).t ≤ 2 ∧ 0 ≤ (rowOf op).l ∧ (rowOf op).l ≤ 3 ∧ 0 ≤ (rowOf op).a ∧ (rowOf op).a ≤ 2 := by
  unfold rowOf
  split
  · rename_i h
    have hlt : op.toNat < rowsL.length := by rw [rows_len]; omega
    rw [List.getD_eq_getElem?_getD, List.getElem?_eq_getElem hlt]
    exact row_rng _ (List.getElem_mem hlt)
  · decide
theorem lays_nonneg (op : Int) : 0 ≤ (rowOf op).l := (rowOf_rng op).2.2.1
def OkAt (L : List Ins) (D : Nat → Int) (p : Nat) (i : Ins) : Prop :=
  0 ≤ D p - (rowOf i.op).t ∧ leaves_ i (D p) ≤ 16 ∧ (jumpsB i.op = true → D i.a.toNat = leaves_ i (D p)) ∧ (onB i.op = true → D (p + 1) = leaves_ i (D p))
/-- a telling of the depths that holds wherever it says something -/
structure Cons (L : List Ins) (D : Nat → Int) : Prop where
  start : D 0 = 0
  ok : ∀ p i, L[p]? = some i → D p ≠ -1 → OkAt L D p i
/-- what holds in the loop; 'at work' is a place whose step is under way -/
structure DInv (L : List Ins) (ds : List Int) (todo : List Nat) (work : Option Nat) : Prop where
  len : ds.length = L.length + 1
  start : atL ds 0 = 0
  tds : ∀ p ∈ todo, p ≤ L.length ∧ atL ds p ≠ -1
  rng : ∀ p, atL ds p ≠ -1 → 0 ≤ atL ds p ∧ atL ds p ≤ 16
  done : ∀ p i, L[p]? = some i → atL ds p ≠ -1 → p ∈ todo ∨ some p = work ∨ OkAt L (atL ds) p i
  least : ∀ D, Cons L D → ∀ p, atL ds p ≠ -1 → D p = atL ds p
theorem atL_set {ds : List Int} {p : Nat} (hp : p < ds.length) (d : Int) (q : Nat) : atL (ds.set p d) q = if p = q then d else atL ds q := by
  unfold atL
  rw [List.getD_eq_getElem?_getD, List.getD_eq_getElem?_getD, List.getElem?_set]
  by_cases e : p = q
  · subst e; simp [hp]
  · simp [e]
def unseen (ds : List Int) : Nat := (ds.filter (· = -1)).length
theorem unseen_set : ∀ {ds : List Int} {p : Nat} {d : Int}, p < ds.length → atL ds p = -1 → d ≠ -1 → unseen (ds.set p d) + 1 = unseen ds
  | [], p, d, h, _, _ => by simp at h
  | x :: ds, 0, d, _, h, hd => by
    have hx : x = -1 := by simpa [atL] using h
    subst hx
    simp [unseen, hd]
  | x :: ds, p + 1, d, h, h2, hd => by
    have ih := unseen_set (ds := ds) (p := p) (d := d) (by simpa using h) (by simpa [atL] using h2) hd
    unfold unseen at ih ⊢
    rw [List.set_cons_succ, List.filter_cons, List.filter_cons]
    split
    · simp only [List.length_cons]; omega
    · exact ih
/-- come, to a place with so much on the stack -/
def comeP (ds : List Int) (todo : List Nat) (p : Nat) (d : Int) : List Int × List Nat × Bool :=
  if atL ds p = -1 then (ds.set p d, todo ++ [p], true) else (ds, todo, atL ds p == d)
theorem come_inv {L : List Ins} {ds : List Int} {todo : List Nat} {work : Option Nat} {p : Nat} {d : Int} (h : DInv L ds todo work) (hp : p ≤ L.length) (h0 : 0 ≤ d) (h16 : d ≤ 16) (hD : ∀ D, Cons L D → D p = d) :
    ((comeP ds todo p d).2.2 = true → DInv L (comeP ds todo p d).1 (comeP ds todo p d).2.1 work ∧ atL (comeP ds todo p d).1 p = d) ∧
    ((comeP ds todo p d).2.2 = false → ∀ D, ¬ Cons L D) ∧ (∀ q, atL ds q ≠ -1 → atL (comeP ds todo p d).1 q = atL ds q) ∧
    2 * unseen (comeP ds todo p d).1 + (comeP ds todo p d).2.1.length ≤ 2 * unseen ds + todo.length := by
  unfold comeP
  by_cases e : atL ds p = -1
  · rw [if_pos e]
    have hpl : p < ds.length := by rw [h.len]; omega
    have hset := atL_set hpl d
    have hne : ∀ q, atL ds q ≠ -1 → p ≠ q := fun q hq e2 => hq (e2 ▸ e)
    have hkeep : ∀ q, atL ds q ≠ -1 → atL (ds.set p d) q = atL ds q := fun q hq => by rw [hset, if_neg (hne q hq)]
    refine ⟨fun _ => ⟨⟨by simpa using h.len, ?_, ?_, ?_, ?_, ?_⟩, by rw [hset, if_pos rfl]⟩, (fun hf => by cases hf), hkeep, ?_⟩
    · rw [hkeep 0 (by rw [h.start]; decide)]; exact h.start
    · intro q hq
      rcases List.mem_append.1 hq with hq | hq
      · obtain ⟨a, b⟩ := h.tds q hq
        exact ⟨a, by rw [hkeep q b]; exact b⟩
      · obtain rfl := List.mem_singleton.1 hq
        exact ⟨hp, by rw [hset, if_pos rfl]; omega⟩
    · intro q hq
      rw [hset] at hq ⊢
      by_cases e2 : p = q
      · rw [if_pos e2]; exact ⟨h0, h16⟩
      · rw [if_neg e2] at hq ⊢; exact h.rng q hq
    · intro q i hi hq
      by_cases e2 : p = q
      · subst e2; exact .inl (by simp)
      · rw [hset, if_neg e2] at hq
        rcases h.done q i hi hq with h1 | h1 | h1
        · exact .inl (by simp [h1])
        · exact .inr (.inl h1)
        · refine .inr (.inr ⟨?_, ?_, ?_, ?_⟩)
          · rw [hkeep q hq]; exact h1.1
          · rw [hkeep q hq]; exact h1.2.1
          · intro hj
            have h2 := h1.2.2.1 hj
            have hn : atL ds i.a.toNat ≠ -1 := by rw [h2]; have := h1.1; unfold leaves_; have := lays_nonneg i.op; omega
            rw [hkeep q hq, hkeep _ hn]; exact h2
          · intro ho
            have h2 := h1.2.2.2 ho
            have hn : atL ds (q + 1) ≠ -1 := by rw [h2]; have := h1.1; unfold leaves_; have := lays_nonneg i.op; omega
            rw [hkeep q hq, hkeep _ hn]; exact h2
    · intro D hc q hq
      rw [hset] at hq ⊢
      by_cases e2 : p = q
      · subst e2; rw [if_pos rfl]; exact hD D hc
      · rw [if_neg e2] at hq ⊢; exact h.least D hc q hq
    · have := unseen_set hpl e (d := d) (by omega)
      simp
      omega
  · rw [if_neg e]
    refine ⟨fun ht => ⟨h, by simpa using ht⟩, fun hf D hc => ?_, fun q _ => rfl, Nat.le_refl _⟩
    have h1 := h.least D hc p e
    rw [hD D hc] at h1
    simp at hf
    exact hf h1.symm
theorem DInv.finish {L : List Ins} {ds : List Int} {todo : List Nat} {p : Nat} (h : DInv L ds todo (some p)) (hok : ∀ i, L[p]? = some i → OkAt L (atL ds) p i) : DInv L ds todo none :=
  ⟨h.len, h.start, h.tds, h.rng, fun q i hi hq => (h.done q i hi hq).imp_right fun h1 => h1.elim (fun e => by
    obtain rfl := Option.some.inj e
    exact .inr (hok i hi)) .inr, h.least⟩
theorem DInv.pop {L : List Ins} {ds : List Int} {todo : List Nat} {p : Nat} (h : DInv L ds (todo ++ [p]) none) : DInv L ds todo (some p) ∧ p ≤ L.length ∧ atL ds p ≠ -1 :=
  ⟨⟨h.len, h.start, fun q hq => h.tds q (by simp [hq]), h.rng, fun q i hi hq => (h.done q i hi hq).elim (fun h1 => by
    rcases List.mem_append.1 h1 with h1 | h1
    · exact .inl h1
    · exact .inr (.inl (by rw [List.mem_singleton.1 h1]))) fun h1 => h1.elim (fun e => by cases e) fun h1 => .inr (.inr h1), h.least⟩, h.tds p (by simp)⟩
theorem DInv.bad {L : List Ins} {ds : List Int} {todo : List Nat} {p : Nat} {i : Ins} (h : DInv L ds todo (some p)) (hi : L[p]? = some i) (hp : atL ds p ≠ -1) (hb : atL ds p - (rowOf i.op).t < 0 ∨ 16 < leaves_ i (atL ds p)) : ∀ D, ¬ Cons L D := fun D hc => by
  have h1 := h.least D hc p hp
  have h2 := hc.ok p i hi (by rw [h1]; exact hp)
  have h3 := h2.1
  have h4 := h2.2.1
  rw [h1] at h3 h4
  rcases hb with hb | hb <;> omega
/-- what the depths are, if they can be told -/
structure Told (L : List Ins) (ds : List Int) : Prop where
  len : ds.length = L.length + 1
  valid : Valid L
  cons : Cons L (atL ds)
  rng : ∀ p, atL ds p ≠ -1 → 0 ≤ atL ds p ∧ atL ds p ≤ 16
def Untold (L : List Ins) : Prop := ¬ Valid L ∨ ∀ D, ¬ Cons L D
theorem DInv.told {L : List Ins} {ds : List Int} (h : DInv L ds [] none) (hv : Valid L) : Told L ds :=
  ⟨h.len, hv, ⟨h.start, fun p i hi hp => (h.done p i hi hp).elim (fun h1 => by cases h1) fun h1 => h1.elim (fun e => by cases e) id⟩, h.rng⟩
theorem atL_rep (n q : Nat) : atL (List.replicate n (-1)) q = -1 := by
  unfold atL
  rw [List.getD_eq_getElem?_getD, List.getElem?_replicate]
  split <;> rfl
/-- the first place -/
theorem start_inv (L : List Ins) : comeP (List.replicate (L.length + 1) (-1)) [] 0 0 = ((List.replicate (L.length + 1) (-1)).set 0 0, [0], true) ∧ DInv L ((List.replicate (L.length + 1) (-1)).set 0 0) [0] none := by
  have h1 : atL (List.replicate (L.length + 1) (-1)) 0 = -1 := atL_rep _ _
  have hset := atL_set (ds := List.replicate (L.length + 1) (-1)) (p := 0) (by simp) 0
  refine ⟨by unfold comeP; rw [if_pos h1]; rfl, by simp, by rw [hset]; rfl, ?_, ?_, ?_, ?_⟩
  · intro p hp
    obtain rfl := List.mem_singleton.1 hp
    exact ⟨Nat.zero_le _, by rw [hset, if_pos rfl]; decide⟩
  · intro p hp
    rw [hset] at hp ⊢
    by_cases e : 0 = p
    · rw [if_pos e]; omega
    · rw [if_neg e] at hp; exact absurd (atL_rep _ _) hp
  · intro p i _ hp
    rw [hset] at hp
    by_cases e : 0 = p
    · exact .inl (by simp [← e])
    · rw [if_neg e] at hp; exact absurd (atL_rep _ _) hp
  · intro D hc p hp
    rw [hset] at hp ⊢
    by_cases e : 0 = p
    · rw [if_pos e, ← e]; exact hc.start
    · rw [if_neg e] at hp; exact absurd (atL_rep _ _) hp
end Go.Proofs.YthjakngpegdhmaaDoor

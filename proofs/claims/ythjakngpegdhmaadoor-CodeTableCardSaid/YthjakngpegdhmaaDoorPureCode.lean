/- What is accepted: plain laws on nops ahead, a halt at the end, components that are only shown. -/
import Derived.Test.YthjakngpegdhmaaDoorCheck
namespace Go.Proofs.YthjakngpegdhmaaDoor
open Go.RowKit

def csP : List (Int × Bool) := [(1, true), (2, true), (3, true), (4, false)]
def csS : List (Int × Bool) := [(1, false), (2, false), (3, false), (4, false)]
def readsB (x : Ins) : Bool := decide (x.op = 22 ∨ x.op = 24)
theorem comp_csP {a : Int} (h : compB csP a true = true) : 0 ≤ a ∧ a ≤ 2 := by
  unfold compB at h
  rw [Bool.and_eq_true, decide_eq_true_eq] at h
  obtain ⟨h0, h1⟩ := h
  refine ⟨h0, ?_⟩
  obtain ⟨k, rfl⟩ := Int.eq_ofNat_of_zero_le h0
  rw [Int.toNat_natCast] at h1
  match k, h1 with
  | 0, _ => omega
  | 1, _ => omega
  | 2, _ => omega
  | 3, h1 => exact absurd h1 (by decide)
  | k + 4, h1 => exact absurd h1 (by simp [csP])
theorem comp_len {cs cs' : List (Int × Bool)} (hl : cs.length = cs'.length) (a : Int) : compB cs a false = compB cs' a false := by
  unfold compB
  by_cases h : a.toNat < cs.length
  · rw [List.getElem?_eq_getElem h, List.getElem?_eq_getElem (hl ▸ h)]; simp
  · rw [List.getElem?_eq_none (by omega), List.getElem?_eq_none (by omega)]
theorem comp_csS (a : Int) : compB csS a true = false := by
  unfold compB
  by_cases h0 : 0 ≤ a
  · obtain ⟨k, rfl⟩ := Int.eq_ofNat_of_zero_le h0
    rw [Int.toNat_natCast]
    match k with
    | 0 => simp [csS]
    | 1 => simp [csS]
    | 2 => simp [csS]
    | 3 => simp [csS]
    | k + 4 => simp [csS]
  · simp [h0]
theorem cell_cs (x : Ins) : cellB csS x = cellB csP x := by
  unfold cellB
  split
  · rfl
  · congr 1
    match x.a.toNat with
    | 0 => rfl
    | 1 => rfl
    | 2 => rfl
    | 3 => rfl
    | k + 4 => simp [csS, csP]
theorem opnd_reads {x : Ins} {n : Nat} (hx : readsB x = true) : opndB csS 2 n x = false := by
  have h : x.op = 22 ∨ x.op = 24 := by simpa [readsB] using hx
  unfold opndB
  rw [if_neg (by omega), if_pos h, comp_csS]
theorem opnd_other {x : Ins} {n : Nat} (hx : readsB x = false) : opndB csS 2 n x = opndB csP 2 n x := by
  have h : ¬ (x.op = 22 ∨ x.op = 24) := by simpa [readsB] using hx
  unfold opndB
  rw [if_neg h, if_neg h, comp_len (cs := csS) (cs' := csP) rfl]
  rfl
theorem ins_reads {x : Ins} {n : Nat} (h : insB csP 2 n x = true) : insB csS 2 n x = !readsB x := by
  unfold insB at h ⊢
  rw [cell_cs]
  cases hx : readsB x with
  | true => rw [opnd_reads hx]; simp
  | false => rw [opnd_other hx, h]; rfl
theorem ins_arg {x : Ins} {n : Nat} (h : insB csP 2 n x = true) (hx : readsB x = true) : 0 ≤ x.a ∧ x.a ≤ 2 := by
  have ho : x.op = 22 ∨ x.op = 24 := by simpa [readsB] using hx
  unfold insB at h
  rw [Bool.and_eq_true, Bool.and_eq_true] at h
  have h2 := h.1.2
  unfold opndB at h2
  rw [if_neg (by omega), if_pos ho] at h2
  exact comp_csP h2
theorem shown_ok {L : List Ins} (h : okC csP 2 L) : okC csS 2 L ↔ L.any readsB = false := by
  obtain ⟨h1, h2, h3⟩ := h
  rw [List.any_eq_false]
  constructor
  · rintro ⟨-, g2, -⟩ x hx
    have := g2 x hx
    rw [ins_reads (h2 x hx)] at this
    simpa using this
  · intro g
    refine ⟨h1, fun x hx => ?_, h3⟩
    rw [ins_reads (h2 x hx)]
    have := g x hx
    simpa using this

/-! ### nops ahead, and a halt -/
def isJ (op : Int) : Prop := op = 20 ∨ op = 21
instance (op : Int) : Decidable (isJ op) := inferInstanceAs (Decidable (_ ∨ _))
def shiftI (n : Nat) (x : Ins) : Ins := if isJ x.op then ⟨x.op, x.a + n, x.b⟩ else x
def nopI : Ins := ⟨0, 0, 0⟩
def haltI : Ins := ⟨35, 0, 0⟩
def moreL (n : Nat) (L : List Ins) : List Ins := List.replicate n nopI ++ L.map (shiftI n) ++ [haltI]
def inJ (m : Nat) (x : Ins) : Prop := isJ x.op → 0 ≤ x.a ∧ x.a ≤ m
theorem more_len (n : Nat) (L : List Ins) : (moreL n L).length = n + L.length + 1 := by simp [moreL]; omega
theorem shift_op (n : Nat) (x : Ins) : (shiftI n x).op = x.op := by unfold shiftI; split <;> rfl
theorem shift_b (n : Nat) (x : Ins) : (shiftI n x).b = x.b := by unfold shiftI; split <;> rfl
theorem more_nop {n p : Nat} {L : List Ins} (h : p < n) : (moreL n L)[p]? = some nopI := by
  unfold moreL
  rw [List.append_assoc, List.getElem?_append_left (by simpa using h), List.getElem?_replicate, if_pos h]
theorem more_mid {n p : Nat} {L : List Ins} {x : Ins} (h : L[p]? = some x) : (moreL n L)[n + p]? = some (shiftI n x) := by
  have hl : p < L.length := (List.getElem?_eq_some_iff.mp h).1
  unfold moreL
  rw [List.append_assoc, List.getElem?_append_right (by simp), List.length_replicate, Nat.add_sub_cancel_left, List.getElem?_append_left (by simpa using hl), List.getElem?_map, h]; rfl
theorem more_end {n : Nat} {L : List Ins} : (moreL n L)[n + L.length]? = some haltI := by
  unfold moreL
  rw [List.getElem?_append_right (by simp)]; simp
theorem more_cases {n p : Nat} {L : List Ins} {y : Ins} (h : (moreL n L)[p]? = some y) : (p < n ∧ y = nopI) ∨ (∃ q x, p = n + q ∧ L[q]? = some x ∧ y = shiftI n x) ∨ (p = n + L.length ∧ y = haltI) := by
  have hl : p < (moreL n L).length := (List.getElem?_eq_some_iff.mp h).1
  rw [more_len] at hl
  rcases Nat.lt_or_ge p n with h1 | h1
  · rw [more_nop h1] at h; exact .inl ⟨h1, (Option.some.inj h).symm⟩
  · obtain ⟨q, rfl⟩ := Nat.exists_eq_add_of_le h1
    rcases Nat.lt_or_ge q L.length with h2 | h2
    · have e : L[q]? = some L[q] := List.getElem?_eq_getElem h2
      rw [more_mid e] at h
      exact .inr (.inl ⟨q, L[q], rfl, e, (Option.some.inj h).symm⟩)
    · obtain rfl : q = L.length := by omega
      rw [more_end] at h
      exact .inr (.inr ⟨rfl, (Option.some.inj h).symm⟩)
theorem ins_shift {cs : List (Int × Bool)} {nr n : Nat} {L : List Ins} {x : Ins} (hj : inJ L.length x) : insB cs nr (moreL n L).length (shiftI n x) = insB cs nr L.length x := by
  by_cases h : isJ x.op
  · obtain ⟨h0, h1⟩ := hj h
    have e : shiftI n x = ⟨x.op, x.a + n, x.b⟩ := if_pos h
    have ha : (rowOf x.op).a < 2 := by rcases h with h | h <;> (rw [h]; decide)
    unfold insB opndB cellB
    rw [e]
    simp only
    have h' : x.op = 20 ∨ x.op = 21 := h
    rw [if_pos h', if_pos h', if_pos ha, if_pos ha, more_len, decide_eq_true (show 0 ≤ x.a + (n : Int) ∧ x.a + (n : Int) ≤ ((n + L.length + 1 : Nat) : Int) from by omega), decide_eq_true (show 0 ≤ x.a ∧ x.a ≤ (L.length : Int) from ⟨h0, h1⟩)]
  · have e : shiftI n x = x := if_neg h
    rw [e]
    have h' : ¬ (x.op = 20 ∨ x.op = 21) := h
    unfold insB opndB
    rw [if_neg h', if_neg h']
theorem ins_more {cs : List (Int × Bool)} {nr n : Nat} {L : List Ins} (hj : ∀ x ∈ L, inJ L.length x) : (∀ y ∈ moreL n L, insB cs nr (moreL n L).length y = true) ↔ ∀ x ∈ L, insB cs nr L.length x = true := by
  constructor
  · intro h x hx
    rw [← ins_shift (n := n) (hj x hx)]
    refine h _ ?_
    unfold moreL
    rw [List.mem_append, List.mem_append]
    exact .inl (.inr (List.mem_map_of_mem hx))
  · intro h y hy
    unfold moreL at hy
    rw [List.mem_append, List.mem_append, List.mem_singleton, List.mem_map, List.mem_replicate] at hy
    rcases hy with (⟨-, rfl⟩ | ⟨x, hx, rfl⟩) | rfl
    · show insB cs nr _ ⟨0, 0, 0⟩ = true
      rfl
    · rw [ins_shift (hj x hx)]; exact h x hx
    · show insB cs nr _ ⟨35, 0, 0⟩ = true
      rfl
theorem jumps_isJ {op : Int} : jumpsB op = true ↔ isJ op := by simp [jumpsB, isJ]
theorem valid_more {n : Nat} {L : List Ins} (hj : ∀ x ∈ L, inJ L.length x) : Valid (moreL n L) ↔ Valid L := by
  constructor
  · intro h x hx
    have := h (shiftI n x) (by
      unfold moreL
      rw [List.mem_append, List.mem_append]
      exact .inl (.inr (List.mem_map_of_mem hx)))
    rw [shift_op] at this
    exact ⟨this.1, fun h => hj x hx (jumps_isJ.mp h)⟩
  · intro h y hy
    unfold moreL at hy
    rw [List.mem_append, List.mem_append, List.mem_singleton, List.mem_map, List.mem_replicate] at hy
    rcases hy with (⟨-, rfl⟩ | ⟨x, hx, rfl⟩) | rfl
    · exact ⟨rfl, fun h => absurd h (by decide)⟩
    · rw [shift_op]
      refine ⟨(h x hx).1, fun hh => ?_⟩
      have h1 := jumps_isJ.mp hh
      have h2 := hj x hx h1
      have e : shiftI n x = ⟨x.op, x.a + n, x.b⟩ := if_pos h1
      rw [e, more_len]
      simp only
      omega
    · exact ⟨rfl, fun h => absurd h (by decide)⟩
theorem okAt_shift {n p : Nat} {L M : List Ins} {D D' : Nat → Int} {x : Ins} (hj : inJ L.length x) (hx : L[p]? = some x) (hD : ∀ q, q ≤ L.length → D' (n + q) = D q) : OkAt M D' (n + p) (shiftI n x) ↔ OkAt L D p x := by
  have hl : p < L.length := (List.getElem?_eq_some_iff.mp hx).1
  have e1 := hD p (by omega)
  have e2 := hD (p + 1) (by omega)
  have hj2 : jumpsB x.op = true → D' (shiftI n x).a.toNat = D x.a.toNat := by
    intro h
    have h1 := jumps_isJ.mp h
    obtain ⟨h2, h3⟩ := hj h1
    have e : shiftI n x = ⟨x.op, x.a + n, x.b⟩ := if_pos h1
    rw [e]
    show D' (x.a + n).toNat = _
    rw [← hD x.a.toNat (by omega)]
    congr 1; omega
  unfold OkAt leaves_
  rw [shift_op, e1, show n + p + 1 = n + (p + 1) from by omega, e2]
  constructor
  · rintro ⟨a, b, c, d⟩
    exact ⟨a, b, fun h => by rw [← hj2 h]; exact c h, d⟩
  · rintro ⟨a, b, c, d⟩
    exact ⟨a, b, fun h => by rw [hj2 h]; exact c h, d⟩
theorem told_more {n : Nat} {L : List Ins} {ds : List Int} (hj : ∀ x ∈ L, inJ L.length x) (h : Told L ds) : Told (moreL n L) (List.replicate n 0 ++ ds ++ [-1]) := by
  have hmid : ∀ q, q ≤ L.length → atL (List.replicate n 0 ++ ds ++ [-1]) (n + q) = atL ds q := by
    intro q hq
    unfold atL
    rw [List.getD_eq_getElem?_getD, List.getD_eq_getElem?_getD, List.append_assoc, List.getElem?_append_right (by simp), List.length_replicate, Nat.add_sub_cancel_left, List.getElem?_append_left (by rw [h.len]; omega)]
  have hpre : ∀ q, q < n → atL (List.replicate n 0 ++ ds ++ [-1]) q = 0 := by
    intro q hq
    unfold atL
    rw [List.getD_eq_getElem?_getD, List.append_assoc, List.getElem?_append_left (by simpa using hq), List.getElem?_replicate, if_pos hq]; rfl
  have h0 : atL ds 0 = 0 := h.cons.start
  have hstart : ∀ q, q ≤ n → atL (List.replicate n 0 ++ ds ++ [-1]) q = 0 := by
    intro q hq
    rcases Nat.lt_or_ge q n with h1 | h1
    · exact hpre q h1
    · obtain rfl : q = n := by omega
      have := hmid 0 (by omega)
      rw [Nat.add_zero] at this
      rw [this, h0]
  have hrng : ∀ p, atL (List.replicate n 0 ++ ds ++ [-1]) p ≠ -1 → 0 ≤ atL (List.replicate n 0 ++ ds ++ [-1]) p ∧ atL (List.replicate n 0 ++ ds ++ [-1]) p ≤ 16 := by
    intro p hp
    rcases Nat.lt_or_ge p n with h1 | h1
    · rw [hpre p h1]; omega
    · obtain ⟨q, rfl⟩ := Nat.exists_eq_add_of_le h1
      rcases Nat.lt_or_ge L.length q with h2 | h2
      · exfalso
        apply hp
        unfold atL
        rw [List.getD_eq_getElem?_getD, List.getElem?_append_right (by simp [h.len]; omega)]
        have hlen : (List.replicate n (0 : Int) ++ ds).length = n + L.length + 1 := by simp [h.len]; omega
        rw [hlen]
        rcases Nat.eq_or_lt_of_le (show L.length + 1 ≤ q from h2) with h3 | h3
        · rw [show n + q - (n + L.length + 1) = 0 from by omega]; rfl
        · rw [List.getElem?_eq_none (by simp; omega)]; rfl
      · rw [hmid q h2] at hp ⊢
        exact h.rng q hp
  refine ⟨by simp [more_len, h.len]; omega, (valid_more hj).mpr h.valid, ⟨hstart 0 (by omega), ?_⟩, hrng⟩
  intro p y hy hp
  rcases more_cases hy with ⟨h1, rfl⟩ | ⟨q, x, rfl, hx, rfl⟩ | ⟨rfl, rfl⟩
  · refine ⟨?_, ?_, fun h => absurd h (by decide), fun _ => ?_⟩
    · rw [hpre p h1]; decide
    · rw [hpre p h1]; decide
    · rw [hpre p h1, hstart (p + 1) (by omega)]; decide
  · have hl : q < L.length := (List.getElem?_eq_some_iff.mp hx).1
    rw [okAt_shift (L := L) (D := atL ds) (hj x (List.mem_of_getElem? hx)) hx hmid]
    rw [hmid q (by omega)] at hp
    exact h.cons.ok q x hx hp
  · have := hrng _ hp
    refine ⟨?_, ?_, fun h => absurd h (by decide), fun h => absurd h (by decide)⟩
    · show 0 ≤ _ - (rowOf 35).t
      rw [show (rowOf 35).t = 0 from by decide]; omega
    · show _ - (rowOf 35).t + (rowOf 35).l ≤ 16
      rw [show (rowOf 35).t = 0 from by decide, show (rowOf 35).l = 0 from by decide]; omega
theorem told_less {n : Nat} {L : List Ins} {es : List Int} (hj : ∀ x ∈ L, inJ L.length x) (h : Told (moreL n L) es) : Told L ((es.drop n).take (L.length + 1)) := by
  have hlen := h.len
  rw [more_len] at hlen
  have hmid : ∀ q, q ≤ L.length → atL es (n + q) = atL ((es.drop n).take (L.length + 1)) q := by
    intro q hq
    unfold atL
    rw [List.getD_eq_getElem?_getD, List.getD_eq_getElem?_getD, List.getElem?_take, if_pos (by omega), List.getElem?_drop]
  have hstart : ∀ q, q ≤ n → atL es q = 0 := by
    intro q
    induction q with
    | zero => intro _; exact h.cons.start
    | succ q ih =>
      intro hq
      have e := ih (by omega)
      have o := h.cons.ok q nopI (more_nop (by omega)) (by rw [e]; decide)
      have := o.2.2.2 (by decide)
      rw [this, e]; decide
  refine ⟨by simp; omega, (valid_more hj).mp h.valid, ⟨?_, ?_⟩, ?_⟩
  · rw [← hmid 0 (by omega)]; exact hstart n (by omega)
  · intro p x hx hp
    have hl : p < L.length := (List.getElem?_eq_some_iff.mp hx).1
    rw [← okAt_shift (n := n) (M := moreL n L) (hj x (List.mem_of_getElem? hx)) hx hmid]
    refine h.cons.ok (n + p) _ (more_mid hx) ?_
    rw [hmid p (by omega)]; exact hp
  · intro p hp
    rcases Nat.lt_or_ge L.length p with h2 | h2
    · exfalso
      apply hp
      unfold atL
      rw [List.getD_eq_getElem?_getD, List.getElem?_eq_none (by simp; omega)]; rfl
    · rw [← hmid p h2] at hp ⊢
      exact h.rng _ hp
theorem parts_ok {n : Nat} {L : List Ins} (hl : L.length ≤ 30) (hn : n ≤ 20) (hj : ∀ x ∈ L, inJ L.length x) : okC csP 2 (moreL n L) ↔ okC csP 2 L := by
  unfold okC
  rw [ins_more hj, more_len]
  constructor
  · rintro ⟨-, h2, ds, h3⟩
    exact ⟨by omega, h2, _, told_less hj h3⟩
  · rintro ⟨-, h2, ds, h3⟩
    exact ⟨by omega, h2, _, told_more hj h3⟩
end Go.Proofs.YthjakngpegdhmaaDoor

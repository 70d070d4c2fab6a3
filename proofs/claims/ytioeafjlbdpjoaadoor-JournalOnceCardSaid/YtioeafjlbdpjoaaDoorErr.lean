/- Errors by contracts: the sentinels of package api, chains of blame.Blame over them; blame.At, errors.Is, blame.Of, blame.Has, blame.Number. -/
import Derived.Test.YtioeafjlbdpjoaaDoorLib
import Derived.Test.YtioeafjlbdpjoaaDoorProg
import Derived.LaidEql
import Derived.LaidEqlPtr
import Derived.Stop.Asserts
import Derived.RowKitTokens
import Derived.KernelRfl
namespace Go.Proofs.YtioeafjlbdpjoaaDoor
open Go.RowKit Go.Extern.Stop Go.Stop Go.Extern

/-! ### Closed facts on the types -/
theorem isTypeOf (v : Value) (w : World) : (Extern.ReflectliteType.typeOf #[.iface 117 v]).run Tryd.prog w = .ok (.iface 104 (.agg #[.pointer (some ⟨18, 117, none⟩)])) w := by kernel_rfl
def cmpRow : Array Value → Sem Value := Extern.ReflectliteType.method fun t => do Go.Extern.Rtype.noPackHeld "Comparable" t; pure (.bool (← typeInfo t).comparable)
theorem isComparable (w : World) : (cmpRow #[.agg #[.pointer (some ⟨18, 117, none⟩)]]).run Tryd.prog w = .ok (.bool true) w := by kernel_rfl
theorem isMethodComparable (v : Value) (w : World) : (Go.method 254 104 v "Comparable").run Tryd.prog w = .ok (71, v) w := by kernel_rfl
theorem isComp : (Tryd.prog.info? 117).map (·.comparable) = some true := by kernel_rfl
theorem isSize : (Tryd.prog.info? 142).map (·.size) = some 1 := by kernel_rfl
theorem noIsE (v : Value) (xT : TypeId) (w : World) : (Instr.typeAssert (.iface 117 v) xT 106 true).run Tryd.prog w = .ok (.tuple #[.nilIface, .bool false]) w := run_typeAssert_lacksB Tryd.underlying106 (by kernel_rfl) (by kernel_rfl) v xT w
theorem noUnwrapE (v : Value) (xT : TypeId) (w : World) : (Instr.typeAssert (.iface 117 v) xT 109 true).run Tryd.prog w = .ok (.tuple #[.nilIface, .bool false]) w := run_typeAssert_lacksB Tryd.underlying109 (by kernel_rfl) (by kernel_rfl) v xT w
theorem noUnwrapsE (v : Value) (xT : TypeId) (w : World) : (Instr.typeAssert (.iface 117 v) xT 111 true).run Tryd.prog w = .ok (.tuple #[.nilIface, .bool false]) w := run_typeAssert_lacksB Tryd.underlying111 (by kernel_rfl) (by kernel_rfl) v xT w
theorem noIsW (v : Value) (xT : TypeId) (w : World) : (Instr.typeAssert (.iface 114 v) xT 106 true).run Tryd.prog w = .ok (.tuple #[.nilIface, .bool false]) w := run_typeAssert_lacksB Tryd.underlying106 (by kernel_rfl) (by kernel_rfl) v xT w
theorem hasUnwrapW (v : Value) (xT : TypeId) (w : World) : (Instr.typeAssert (.iface 114 v) xT 109 true).run Tryd.prog w = .ok (.tuple #[.iface 114 v, .bool true]) w := run_typeAssert_hasB Tryd.underlying109 (by kernel_rfl) v xT w
theorem methodUnwrap (v : Value) (w : World) : (Go.method 254 114 v "Unwrap").run Tryd.prog w = .ok (81, v) w := by kernel_rfl

/-! ### The sentinels, by their numbers in package blame -/
/-- where the variable of a number lies -/
def gOf : Nat → Nat
  | 1 => 1
  | 2 => 0
  | 3 => 5
  | 4 => 6
  | 5 => 7
  | 6 => 4
  | 7 => 8
  | 8 => 2
  | 9 => 9
  | 10 => 10
  | 11 => 11
  | 12 => 12
  | 13 => 13
  | 14 => 14
  | 15 => 15
  | 16 => 3
  | 17 => 16
  | 18 => 17
  | _ => 0

/-- the value of a sentinel that lies at an address -/
abbrev sv (a : Addr) : Value := .iface 117 (.pointer (some a))

/-- The sentinels of the numbers K are known: each variable's cell, the text's block, all below block B; no two are one. -/
structure Sents (K : List Nat) (B : Nat) (w : World) (ad : Nat → Addr) : Prop where
  le : B ≤ w.heap.size
  glob : ∀ k ∈ K, gOf k < B
  cell : ∀ k ∈ K, w.cell? ⟨gOf k, 0, none⟩ = some (sv (ad k))
  lt : ∀ k ∈ K, (ad k).block < B
  blk : ∀ k ∈ K, ∃ cs t, w.heap[(ad k).block]? = some (.cells cs t (0, 0))
  inj : ∀ j ∈ K, ∀ k ∈ K, ad j = ad k → j = k

section
variable {K : List Nat} {B : Nat} {w w' : World} {ad : Nat → Addr}
theorem Sents.below (h : Sents K B w ad) (hb : Below B w w') : Sents K B w' ad where
  le := Nat.le_trans h.le hb.size
  glob := h.glob
  cell := fun k hk => (hb.cell (p := ⟨gOf k, 0, none⟩) (h.glob k hk)).trans (h.cell k hk)
  lt := h.lt
  blk := fun k hk => by
    obtain ⟨cs, t, e⟩ := h.blk k hk
    exact ⟨cs, t, (hb.block _ (h.lt k hk)).trans e⟩
  inj := h.inj
theorem Sents.fr {S : List Nat} (h : Sents K B w ad) (hf : Fr S w w') (hS : ∀ x ∈ S, B ≤ x) : Sents K B w' ad := h.below (hf.below hS h.le)
theorem Sents.fr0 (h : Sents K B w ad) (hf : Fr [] w w') : Sents K B w' ad := h.fr hf fun _ hx => by cases hx
theorem Sents.sub {K' : List Nat} (h : Sents K B w ad) (hk : ∀ k ∈ K', k ∈ K) : Sents K' B w ad :=
  ⟨h.le, fun k m => h.glob k (hk k m), fun k m => h.cell k (hk k m), fun k m => h.lt k (hk k m), fun k m => h.blk k (hk k m), fun j mj k mk => h.inj j (hk j mj) k (hk k mk)⟩
end

/-! ### Chains of Blame over a sentinel -/
/-- 'v' is the sentinel of number 'k' behind some Blames; T: their blocks. -/
inductive Chain (w : World) (ad : Nat → Addr) (k : Nat) : Value → List Nat → Prop where
  | sent : Chain w ad k (sv (ad k)) []
  | blame (b : Nat) (s : ByteArray) (v : Value) (T : List Nat) : Blk w b 116 #[.string s, v] → Chain w ad k v T → Chain w ad k (.iface 114 (.pointer (some ⟨b, 0, none⟩))) (b :: T)

theorem Chain.fr {w w' : World} {ad : Nat → Addr} {k : Nat} {v : Value} {T S : List Nat} (h : Chain w ad k v T) (hf : Fr S w w') (hT : ∀ b ∈ T, b ∉ S) : Chain w' ad k v T := by
  induction h with
  | sent => exact .sent
  | blame b s v T hb _ ih => exact .blame b s v T (hb.fr hf (hT b (by simp))) (ih fun x hx => hT x (by simp [hx]))
theorem Chain.fr0 {w w' : World} {ad : Nat → Addr} {k : Nat} {v : Value} {T : List Nat} (h : Chain w ad k v T) (hf : Fr [] w w') : Chain w' ad k v T := h.fr hf fun _ _ hx => by cases hx
theorem Chain.lt {w : World} {ad : Nat → Addr} {k : Nat} {v : Value} {T : List Nat} (h : Chain w ad k v T) : ∀ b ∈ T, b < w.heap.size := by
  induction h with
  | sent => intro b hb; cases hb
  | blame b s v T hb _ ih =>
    intro x hx
    rcases List.mem_cons.1 hx with rfl | hx
    · exact hb.lt
    · exact ih x hx
theorem Chain.form {w : World} {ad : Nat → Addr} {k : Nat} {v : Value} {T : List Nat} (h : Chain w ad k v T) : ∃ t a, v = .iface t (.pointer (some a)) := by
  cases h
  · exact ⟨_, _, rfl⟩
  · exact ⟨_, _, rfl⟩
theorem Chain.iface_ne {w : World} {ad : Nat → Addr} {k : Nat} {v : Value} {T : List Nat} (h : Chain w ad k v T) : v ≠ .nilIface := by
  obtain ⟨t, a, rfl⟩ := h.form
  intro h; cases h

theorem eql_nil_false (t : TypeId) (x : Value) (W : World) : (binOp .eql 26 (.iface t x) .nilIface).run Tryd.prog W = .ok (.bool false) W :=
  run_eql_held_nil W 26 t x (by kernel_rfl)

/-! ### blame.At -/
theorem at_err (s : ByteArray) (t : TypeId) (x : Value) (w : World) :
    Calls Tryd.prog 45 #[.string s, .iface t x] w fun e w' => e = .returned (.iface 114 (.pointer (some ⟨w.heap.size, 0, none⟩))) ∧
      w.alloc (.cells #[.string s, .iface t x] 116) = w' := by
  have hn := eql_nil_false t x
  go_enter Tryd.func45, Tryd.ntmps45
  go_wp2
  go_ret
  exact ⟨rfl, rfl⟩

/-- an error that the call made: number k; one new block -/
def NewErr (w w' : World) (ad : Nat → Addr) (v : Value) (k : Nat) : Prop := ∃ (b : Nat) (s : ByteArray), w.heap.size ≤ b ∧ v = .iface 114 (.pointer (some ⟨b, 0, none⟩)) ∧ Blk w' b 116 #[.string s, sv (ad k)]
theorem at_sent {w : World} {ad : Nat → Addr} {k : Nat} (s : ByteArray) :
    Calls Tryd.prog 45 #[.string s, sv (ad k)] w fun e w' => ∃ v, e = .returned v ∧ NewErr w w' ad v k ∧ Fr [] w w' := by
  refine (at_err s _ _ w).mono ?_
  rintro e w' ⟨rfl, rfl⟩
  exact ⟨_, rfl, ⟨w.heap.size, s, Nat.le_refl _, rfl, Blk.new w _ _⟩, (Fr.refl _ _).alloc _⟩
section
variable {w0 w w1 w' : World} {ad : Nat → Addr} {v : Value} {k : Nat}
theorem NewErr.elder (h : NewErr w w' ad v k) (hs : w0.heap.size ≤ w.heap.size) : NewErr w0 w' ad v k := by
  obtain ⟨b, s, hb, hv, hc⟩ := h
  exact ⟨b, s, by omega, hv, hc⟩
theorem NewErr.fr0 (h : NewErr w w1 ad v k) (hf : Fr [] w1 w') : NewErr w w' ad v k := by
  obtain ⟨b, s, hb, hv, hc⟩ := h
  exact ⟨b, s, hb, hv, hc.fr hf (by simp)⟩
theorem NewErr.set (h : NewErr w w' ad v k) {p : Addr} (hp : p.block < w.heap.size) (u : Value) : NewErr w (w'.setCell p u) ad v k := by
  obtain ⟨b, s, hb, hv, hc⟩ := h
  exact ⟨b, s, hb, hv, hc.far (p := p) (by omega) u⟩
theorem NewErr.alloc (h : NewErr w w' ad v k) (o : Obj) : NewErr w (w'.alloc o) ad v k := h.fr0 ((Fr.refl [] w').alloc o)
theorem NewErr.drew (h : NewErr w w' ad v k) : NewErr w w'.drew ad v k := h.fr0 ((Fr.refl [] w').drew)
theorem NewErr.form (h : NewErr w w' ad v k) : ∃ t a, v = .iface t (.pointer (some a)) := by
  obtain ⟨b, s, hb, hv, hc⟩ := h
  exact ⟨_, _, hv⟩
theorem chain_of {b : Nat} {s : ByteArray} (hc : Blk w b 116 #[.string s, sv (ad k)]) : Chain w ad k (.iface 114 (.pointer (some ⟨b, 0, none⟩))) [b] := .blame b s _ [] hc .sent
theorem NewErr.chain (h : NewErr w w' ad v k) : ∃ b, Chain w' ad k v [b] ∧ w.heap.size ≤ b ∧ b < w'.heap.size := by
  obtain ⟨b, s, hb, rfl, hc⟩ := h
  exact ⟨b, chain_of hc, hb, hc.lt⟩
end

/-! ### What a straight way carries: the sentinels; local blocks L; the blocks S of objects -/
structure Cx (K : List Nat) (B : Nat) (ad : Nat → Addr) (w0 w : World) (S : List Nat) (L : List (Nat × TypeId × Array Value)) : Prop where
  sents : Sents K B w ad
  loc : ∀ x ∈ L, Blk w x.1 x.2.1 x.2.2 ∧ x.1 ∉ S
  lt : ∀ b ∈ S, b < w.heap.size
  fr : Fr [] w0 w
  new : ∀ b ∈ S, w0.heap.size ≤ b
  le : B ≤ w0.heap.size
section
variable {K : List Nat} {B : Nat} {ad : Nat → Addr} {w0 w w' : World} {S S' : List Nat} {L : List (Nat × TypeId × Array Value)}
theorem Cx.start (hs : Sents K B w0 ad) : Cx K B ad w0 w0 [] [] := ⟨hs, by simp, by simp, Fr.refl _ _, by simp, hs.le⟩
theorem Cx.leW (h : Cx K B ad w0 w S L) : B ≤ w.heap.size := Nat.le_trans h.le h.fr.size
theorem Cx.geB (h : Cx K B ad w0 w S L) : ∀ b ∈ S, B ≤ b := fun b hb => Nat.le_trans h.le (h.new b hb)
theorem Cx.go (h : Cx K B ad w0 w S L) {T : List Nat} (hf : Fr T w w') (hT : ∀ b ∈ T, b ∈ S) (hS : ∀ b ∈ S', b ∈ S ∨ w.heap.size ≤ b) (hl : ∀ b ∈ S', b < w'.heap.size) : Cx K B ad w0 w' S' L where
  sents := h.sents.fr hf fun x hx => h.geB x (hT x hx)
  loc := fun x hx => ⟨(h.loc x hx).1.fr hf fun hm => (h.loc x hx).2 (hT _ hm), fun hm => (hS _ hm).elim (h.loc x hx).2 fun hge => by have := (h.loc x hx).1.lt; omega⟩
  lt := hl
  fr := h.fr.step hf fun x hx => .inr (h.new x (hT x hx))
  new := fun b hb => (hS b hb).elim (h.new b) fun hge => Nat.le_trans h.fr.size hge
  le := h.le
theorem Cx.stp (h : Cx K B ad w0 w S L) (hp : Stp S S' w w') (hl : ∀ b ∈ S', b < w'.heap.size) : Cx K B ad w0 w' S' L := h.go hp.1 (fun _ hb => hb) hp.2 hl
theorem Cx.same (h : Cx K B ad w0 w S L) (hf : Fr S w w') : Cx K B ad w0 w' S L := h.go hf (fun _ hb => hb) (fun _ hb => .inl hb) fun b hb => Nat.lt_of_lt_of_le (h.lt b hb) hf.size
theorem Cx.fr0 (h : Cx K B ad w0 w S L) (hf : Fr [] w w') : Cx K B ad w0 w' S L := h.go hf (by simp) (fun _ hb => .inl hb) fun b hb => Nat.lt_of_lt_of_le (h.lt b hb) hf.size
theorem Cx.obj (h : Cx K B ad w0 w S L) (hf : Fr [] w w') (hn : ∀ b ∈ S', w.heap.size ≤ b) (hl : ∀ b ∈ S', b < w'.heap.size) : Cx K B ad w0 w' (S' ++ S) L :=
  h.go hf (by simp) (by
    intro b hb
    rcases List.mem_append.1 hb with hb | hb
    · exact .inr (hn b hb)
    · exact .inl hb) (by
    intro b hb
    rcases List.mem_append.1 hb with hb | hb
    · exact hl b hb
    · exact Nat.lt_of_lt_of_le (h.lt b hb) hf.size)
theorem Cx.more (h : Cx K B ad w0 w S L) {b : Nat} {t : TypeId} {cs : Array Value} (hb : Blk w b t cs) (hn : b ∉ S) : Cx K B ad w0 w S ((b, t, cs) :: L) :=
  ⟨h.sents, fun x hx => (List.mem_cons.1 hx).elim (fun e => by subst e; exact ⟨hb, hn⟩) (h.loc x), h.lt, h.fr, h.new, h.le⟩
theorem Cx.alloc (h : Cx K B ad w0 w S L) (t : TypeId) (cs : Array Value) : Cx K B ad w0 (w.alloc (.cells cs t)) S ((w.heap.size, t, cs) :: L) :=
  (h.fr0 ((Fr.refl [] w).alloc _)).more (Blk.new w t cs) fun hm => by have := h.lt _ hm; omega
theorem Cx.drew (h : Cx K B ad w0 w S L) : Cx K B ad w0 w.drew S L := h.fr0 ((Fr.refl [] w).drew)
theorem Cx.drewN (h : Cx K B ad w0 w S L) (n : Nat) : Cx K B ad w0 (w.drewN n) S L := h.fr0 ((Fr.refl [] w).drewN n)
theorem Cx.err (h : Cx K B ad w0 w S L) (hf : Fr [] w w') {v : Value} {k : Nat} (hn : NewErr w w' ad v k) : ∃ (b : Nat) (s : ByteArray), v = .iface 114 (.pointer (some ⟨b, 0, none⟩)) ∧ Cx K B ad w0 w' S ((b, 116, #[.string s, sv (ad k)]) :: L) := by
  obtain ⟨b, s, hb, rfl, hc⟩ := hn
  exact ⟨b, s, rfl, (h.fr0 hf).more hc fun hm => by have := h.lt _ hm; omega⟩
theorem Cx.blk (h : Cx K B ad w0 w S L) {b : Nat} {t : TypeId} {cs : Array Value} (hm : (b, t, cs) ∈ L) : Blk w b t cs := (h.loc _ hm).1
end

theorem unwrap_calls (b : Nat) (s : ByteArray) (v : Value) (w : World) (hb : Blk w b 116 #[.string s, v]) :
    Calls Tryd.prog 81 #[.pointer (some ⟨b, 0, none⟩)] w fun e w' => e = .returned v ∧ w = w' := by
  have h1 := hb.at_ 1 (v := v) (by simp)
  clear hb
  go_enter Tryd.func81, Tryd.ntmps81
  go_wp2
  go_ret
  exact ⟨rfl, rfl⟩

/-! ### errors.Is -/
theorem eq_same (a : Addr) (w : World) : (binOp .eql 26 (sv a) (sv a)).run Tryd.prog w = .ok (.bool true) w := by
  obtain ⟨i, hi, hcmp⟩ := Option.map_eq_some_iff.1 isComp
  obtain ⟨j, hj, hjs⟩ := Option.map_eq_some_iff.1 isSize
  exact run_eql_iface_ptr_same (P := Tryd.prog) w a Tryd.underlying26 Tryd.underlying117 hi hcmp hj
theorem eq_other {a b : Addr} {ca cb : Array Value} {ta tb : TypeId} (w : World) (hne : a ≠ b) (ha : w.heap[a.block]? = some (.cells ca ta (0, 0))) (hb : w.heap[b.block]? = some (.cells cb tb (0, 0))) :
    (binOp .eql 26 (sv a) (sv b)).run Tryd.prog w = .ok (.bool false) w := by
  obtain ⟨i, hi, hcmp⟩ := Option.map_eq_some_iff.1 isComp
  obtain ⟨j, hj, hjs⟩ := Option.map_eq_some_iff.1 isSize
  exact run_eql_iface_ptr_other (P := Tryd.prog) w Tryd.underlying26 Tryd.underlying117 hi hcmp hj (by rw [hjs]; decide) hne ha hb
theorem eq_types (p : Value) (a : Addr) (w : World) : (binOp .eql 26 (.iface 114 p) (sv a)).run Tryd.prog w = .ok (.bool false) w :=
  run_eql_iface_types (P := Tryd.prog) 114 117 p (.pointer (some a)) Tryd.underlying26 (by decide) w

/-- two sentinels compared -/
theorem eq_sents {K : List Nat} {B : Nat} {w : World} {ad : Nat → Addr} (hs : Sents K B w ad) {j k : Nat} (hj : j ∈ K) (hk : k ∈ K) :
    (binOp .eql 26 (sv (ad k)) (sv (ad j))).run Tryd.prog w = .ok (.bool (decide (k = j))) w := by
  by_cases h : k = j
  · subst h; simp only [decide_true]; exact eq_same _ _
  · obtain ⟨c1, t1, e1⟩ := hs.blk k hk
    obtain ⟨c2, t2, e2⟩ := hs.blk j hj
    rw [decide_eq_false h]
    exact eq_other w (fun e => h (hs.inj k hk j hj e)) e1 e2

set_option maxHeartbeats 1000000 in
theorem is_loop {K : List Nat} {B : Nat} {w : World} {ad : Nat → Addr} {j k : Nat} (hs : Sents K B w ad) (hj : j ∈ K) (hk : k ∈ K) {v : Value} {T : List Nat} (hv : Chain w ad k v T) :
    Calls Tryd.prog 39 #[v, sv (ad j), .bool true] w fun e w' => e = .returned (.bool (decide (k = j))) ∧ w = w' := by
  have nE := noIsE
  have uE := noUnwrapE
  have vE := noUnwrapsE
  have nW := noIsW
  have uW := hasUnwrapW
  have mU := methodUnwrap
  have Hs := hide (eq_sents hs hj hk)
  have tY := eq_types
  have n0 := eql_nil_false
  go_enter Tryd.func39, Tryd.ntmps39
  go_wp2_with fail
  go_loopg [0] T.length (fun g e wr => w = wr ∧ ∃ T' : List Nat, g = T'.length ∧ Chain w ad k e T')
  case atStart => exact ⟨rfl, T, rfl, hv⟩
  case round =>
    obtain ⟨rfl, T', hg, hc⟩ := hrel
    subst hg
    cases hc with
    | sent =>
      have he := Hs.out
      cases hd : decide (k = j) with
      | true =>
        rw [hd] at he
        go_wp2_with fail
        go_ret
        exact ⟨ret_eq (bool_eq hd.symm), rfl⟩
      | false =>
        rw [hd] at he
        go_wp2_with fail
        go_ret
        exact ⟨ret_eq (bool_eq hd.symm), rfl⟩
    | blame b s v' T'' hb hc' =>
      go_wp2_with fail
      refine (unwrap_calls b s v' w hb).mono ?_
      rintro e w' ⟨rfl, rfl⟩
      obtain ⟨t, a, rfl⟩ := hc'.form
      go_wp2_with fail
      go_roundg T''.length
      case measure => simp
      case rel => exact ⟨rfl, T'', rfl, hc'⟩

/-- errors.Is of a chain and a sentinel -/
theorem is_chain {K : List Nat} {B : Nat} {w : World} {ad : Nat → Addr} {j k : Nat} (hs : Sents K B w ad) (hj : j ∈ K) (hk : k ∈ K) {v : Value} {T : List Nat} (hv : Chain w ad k v T) :
    Calls Tryd.prog 17 #[v, sv (ad j)] w fun e w' => e = .returned (.bool (decide (k = j))) ∧ w = w' := by
  have h8 := @run_callFunc_extern Tryd.prog 38 _ Extern.ReflectliteType.typeOf Tryd.func38 (by kernel_rfl) (by kernel_rfl) (by kernel_rfl) (by kernel_rfl)
  have h32 := @run_callFunc_extern Tryd.prog 71 _ cmpRow Tryd.func71 (by kernel_rfl) (by kernel_rfl) (by kernel_rfl) (by kernel_rfl)
  have tT := isTypeOf
  have cT := isComparable
  have mR := isMethodComparable
  have n0 := eql_nil_false
  have Hl := hide (is_loop hs hj hk hv)
  obtain ⟨t, a, rfl⟩ := hv.form
  clear hv hs
  go_enter Tryd.func17, Tryd.ntmps17
  go_wp2_with fail
  refine Hl.out.mono ?_
  rintro e w' ⟨rfl, rfl⟩
  go_wp2_with fail
  go_ret
  exact ⟨rfl, rfl⟩
theorem is_nil (a : Addr) (w : World) :
    Calls Tryd.prog 17 #[.nilIface, sv a] w fun e w' => e = .returned (.bool false) ∧ w = w' := by
  have hn := run_eql_iface_nil_left (P := Tryd.prog) w 117 (.pointer (some a)) Tryd.underlying26
  go_enter Tryd.func17, Tryd.ntmps17
  go_wp2
  go_ret
  exact ⟨rfl, rfl⟩

/-- an error's value and its number, 0: nil -/
def IsErr (w : World) (ad : Nat → Addr) (v : Value) (k : Nat) (T : List Nat) : Prop := (v = .nilIface ∧ k = 0 ∧ T = []) ∨ (1 ≤ k ∧ Chain w ad k v T)
theorem IsErr.fr {w w' : World} {ad : Nat → Addr} {k : Nat} {v : Value} {T S : List Nat} (h : IsErr w ad v k T) (hf : Fr S w w') (hT : ∀ b ∈ T, b ∉ S) : IsErr w' ad v k T :=
  h.elim .inl fun ⟨h1, h2⟩ => .inr ⟨h1, h2.fr hf hT⟩
theorem IsErr.lt {w : World} {ad : Nat → Addr} {k : Nat} {v : Value} {T : List Nat} (h : IsErr w ad v k T) : ∀ b ∈ T, b < w.heap.size := by
  rcases h with ⟨_, _, rfl⟩ | ⟨_, h⟩
  · intro b hb; cases hb
  · exact h.lt
theorem is_any {K : List Nat} {B : Nat} {w : World} {ad : Nat → Addr} {j k : Nat} (hs : Sents K B w ad) (hj : j ∈ K) (hj1 : 1 ≤ j) (hk : k = 0 ∨ k ∈ K) {v : Value} {T : List Nat} (hv : IsErr w ad v k T) :
    Calls Tryd.prog 17 #[v, sv (ad j)] w fun e w' => e = .returned (.bool (decide (k = j))) ∧ w = w' := by
  rcases hv with ⟨rfl, rfl, _⟩ | ⟨h1, h2⟩
  · rw [decide_eq_false (by omega)]
    exact is_nil _ _
  · exact is_chain hs hj (hk.resolve_left (by omega)) h2

/-! ### blame.Of, Has, Number: where all sentinels are known -/
def All18 : List Nat := [1, 2, 3, 4, 5, 6, 7, 8, 9, 10, 11, 12, 13, 14, 15, 16, 17, 18]
theorem mem_all18 {k : Nat} (h1 : 1 ≤ k) (h2 : k ≤ 18) : k ∈ All18 := by
  unfold All18
  have : k = 1 ∨ k = 2 ∨ k = 3 ∨ k = 4 ∨ k = 5 ∨ k = 6 ∨ k = 7 ∨ k = 8 ∨ k = 9 ∨ k = 10 ∨ k = 11 ∨ k = 12 ∨ k = 13 ∨ k = 14 ∨ k = 15 ∨ k = 16 ∨ k = 17 ∨ k = 18 := by omega
  simp only [List.mem_cons, List.not_mem_nil, or_false]
  omega
theorem le_of_all18 {k : Nat} (h : k ∈ All18) : 1 ≤ k ∧ k ≤ 18 := by
  unfold All18 at h
  simp only [List.mem_cons, List.not_mem_nil, or_false] at h
  omega
theorem of_calls {B : Nat} {w : World} {ad : Nat → Addr} (hs : Sents All18 B w ad) (n : Nat) (h1 : 1 ≤ n) (h2 : n ≤ 18) :
    Calls Tryd.prog 52 #[.int .i64 n] w fun e w' => e = .returned (sv (ad n)) ∧ w = w' := by
  have hc := hs.cell n (mem_all18 h1 h2)
  clear hs
  have : n = 1 ∨ n = 2 ∨ n = 3 ∨ n = 4 ∨ n = 5 ∨ n = 6 ∨ n = 7 ∨ n = 8 ∨ n = 9 ∨ n = 10 ∨ n = 11 ∨ n = 12 ∨ n = 13 ∨ n = 14 ∨ n = 15 ∨ n = 16 ∨ n = 17 ∨ n = 18 := by omega
  rcases this with rfl | rfl | rfl | rfl | rfl | rfl | rfl | rfl | rfl | rfl | rfl | rfl | rfl | rfl | rfl | rfl | rfl | rfl
  all_goals
    simp only [gOf] at hc
    go_enter Tryd.func52, Tryd.ntmps52
    go_wp2
    go_ret
    exact ⟨rfl, rfl⟩
end Go.Proofs.YtioeafjlbdpjoaaDoor

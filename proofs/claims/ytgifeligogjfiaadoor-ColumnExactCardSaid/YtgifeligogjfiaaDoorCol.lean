/- Package column by contracts: New, fits, row, part. -/
import Derived.Test.YtgifeligogjfiaaDoorRest
import Derived.Deep.RegionLaw
import Derived.Laws.CopyOwn
namespace Go.Proofs.YtgifeligogjfiaaDoor
open Go.RowKit

/-! ### The model -/
structure Pt where
  c : Int
  v0 : Int
  v1 : Int
  v2 : Int
  v3 : Int
  t : Int
deriving DecidableEq
def vsOf (p : Pt) : List Value := [.int .i64 p.v0, .int .i64 p.v1, .int .i64 p.v2, .int .i64 p.v3]
def cellsOf (k : Nat) (p : Pt) : List Value := (vsOf p).take k
theorem cellsOf_len {k : Nat} (hk : k ≤ 4) : ∀ p, (cellsOf k p).length = k := fun p => by simp [cellsOf, vsOf, hk]
/-- a part's cells; a part as a value -/
def boxP (p : Pt) : Array Value := #[.int .i64 p.c, .int .i64 p.v0, .int .i64 p.v1, .int .i64 p.v2, .int .i64 p.v3, .int .i64 p.t]
abbrev encP (p : Pt) : Value := .agg (boxP p)
/-- a part of a component of k cells -/
def Fits (comp : Int) (k : Nat) (p : Pt) : Prop := p.c = comp ∧ (k ≤ 1 → p.v1 = 0) ∧ (k ≤ 2 → p.v2 = 0) ∧ (k ≤ 3 → p.v3 = 0)
instance (comp : Int) (k : Nat) (p : Pt) : Decidable (Fits comp k p) := by unfold Fits; infer_instance
def ticksOf (ps : List Pt) : List Value := ps.map fun p => .int .i64 p.t

/-- A Column at block g: its component, how many cells a row has, its rows; S: its blocks. -/
def ColR (B : Nat) (w : World) (g : Nat) (comp : Int) (k : Nat) (ps : List Pt) (S : List Nat) : Prop :=
  ∃ vc vt : Value, B ≤ g ∧ Blk w g 67 #[.int .i64 comp, .int .i64 k, vc, vt] ∧ w.ownsRow B 3 1 vc (ps.length * k) (ps.flatMap (cellsOf k)) ∧ w.ownsRow B 3 1 vt ps.length (ticksOf ps) ∧
    (∀ b, vc.ownBlock = some b → vt.ownBlock ≠ some b) ∧ (∀ p ∈ ps, Fits comp k p) ∧ S = g :: (vc.ownBlock.toList ++ vt.ownBlock.toList)

section
variable {B : Nat} {w w' : World} {g : Nat} {comp : Int} {k : Nat} {ps : List Pt} {S T : List Nat}
theorem ColR.lt (h : ColR B w g comp k ps S) : ∀ b ∈ S, b < w.heap.size ∧ B ≤ b := by
  obtain ⟨vc, vt, hB, hg, hc, ht, hd, hf, rfl⟩ := h
  intro b hb
  simp only [List.mem_cons, List.mem_append, Option.mem_toList] at hb
  rcases hb with rfl | hb | hb
  · exact ⟨hg.lt, hB⟩
  · exact row_lt hc hb
  · exact row_lt ht hb
theorem ColR.fr (h : ColR B w g comp k ps S) (hf : Fr T w w') (hd : ∀ b ∈ S, b ∉ T) : ColR B w' g comp k ps S := by
  obtain ⟨vc, vt, hB, hg, hc, ht, hn, hp, rfl⟩ := h
  exact ⟨vc, vt, hB, hg.fr hf (hd _ (by simp)), row_fr hc hf (fun k hk => hd k (by simp [hk])), row_fr ht hf (fun k hk => hd k (by simp [hk])), hn, hp, rfl⟩
theorem ColR.fr0 (h : ColR B w g comp k ps S) (hf : Fr [] w w') : ColR B w' g comp k ps S := h.fr hf (by simp)
theorem ColR.fits (h : ColR B w g comp k ps S) : ∀ p ∈ ps, Fits comp k p := h.choose_spec.choose_spec.2.2.2.2.2.1
theorem ColR.alloc (h : ColR B w g comp k ps S) (o : Obj) : ColR B (w.alloc o) g comp k ps S := h.fr ((Fr.refl [] w).alloc o) (by simp)
end
theorem ticks_get {ps : List Pt} {n : Nat} {p : Pt} (h : ps[n]? = some p) : (ticksOf ps)[n]? = some (.int .i64 p.t) := by simp [ticksOf, h]

theorem infoInt : (Tryd.prog.info? 3).map (fun i => (i.zero, i.size, i.bytes)) = some (some (.int .i64 0), 1, 8) := by kernel_rfl
theorem sizeInt : (Tryd.prog.info? 3).map (·.size) = some 1 := by kernel_rfl

theorem blk6 {w : World} {g : Nat} {t : TypeId} {a b c d e f : Value} (h : Blk w g t #[a, b, c, d, e, f]) :
    w.cell? ⟨g, 0, none⟩ = some a ∧ w.cell? ⟨g, 1, none⟩ = some b ∧ w.cell? ⟨g, 2, none⟩ = some c ∧ w.cell? ⟨g, 3, none⟩ = some d ∧ w.cell? ⟨g, 4, none⟩ = some e ∧ w.cell? ⟨g, 5, none⟩ = some f :=
  ⟨h.at_ 0 rfl, h.at_ 1 rfl, h.at_ 2 rfl, h.at_ 3 rfl, h.at_ 4 rfl, h.at_ 5 rfl⟩

theorem Blk.set4_2 {w : World} {g : Nat} {t : TypeId} {a b c d : Value} (h : Blk w g t #[a, b, c, d]) (x : Value) : Blk (w.setCell ⟨g, 2, none⟩ x) g t #[a, b, x, d] := h.set_ 2 x
theorem Blk.set4_3 {w : World} {g : Nat} {t : TypeId} {a b c d : Value} (h : Blk w g t #[a, b, c, d]) (x : Value) : Blk (w.setCell ⟨g, 3, none⟩ x) g t #[a, b, c, x] := h.set_ 3 x
theorem blk4 {w : World} {g : Nat} {t : TypeId} {a b c d : Value} (h : Blk w g t #[a, b, c, d]) :
    w.cell? ⟨g, 0, none⟩ = some a ∧ w.cell? ⟨g, 1, none⟩ = some b ∧ w.cell? ⟨g, 2, none⟩ = some c ∧ w.cell? ⟨g, 3, none⟩ = some d := ⟨h.at_ 0 rfl, h.at_ 1 rfl, h.at_ 2 rfl, h.at_ 3 rfl⟩
theorem Blk.set6 {w : World} {g : Nat} {t : TypeId} {a b c d e f : Value} (h : Blk w g t #[a, b, c, d, e, f]) (a' b' c' d' e' f' : Value) :
    Blk ((((((w.setCell ⟨g, 0, none⟩ a').setCell ⟨g, 1, none⟩ b').setCell ⟨g, 2, none⟩ c').setCell ⟨g, 3, none⟩ d').setCell ⟨g, 4, none⟩ e').setCell ⟨g, 5, none⟩ f') g t #[a', b', c', d', e', f'] :=
  (((((h.set_ 0 a').set_ 1 b').set_ 2 c').set_ 3 d').set_ 4 e').set_ 5 f'
theorem Fr.set6 {w w' : World} {S : List Nat} {g : Nat} (h : Fr S w w') (hg : w.heap.size ≤ g) (a' b' c' d' e' f' : Value) :
    Fr S w ((((((w'.setCell ⟨g, 0, none⟩ a').setCell ⟨g, 1, none⟩ b').setCell ⟨g, 2, none⟩ c').setCell ⟨g, 3, none⟩ d').setCell ⟨g, 4, none⟩ e').setCell ⟨g, 5, none⟩ f') :=
  (((((h.setCell (.inr hg) a').setCell (.inr hg) b').setCell (.inr hg) c').setCell (.inr hg) d').setCell (.inr hg) e').setCell (.inr hg) f'
theorem Fr.set6in {w w' : World} {S : List Nat} {g : Nat} (h : Fr S w w') (hg : g ∈ S) (a' b' c' d' e' f' : Value) :
    Fr S w ((((((w'.setCell ⟨g, 0, none⟩ a').setCell ⟨g, 1, none⟩ b').setCell ⟨g, 2, none⟩ c').setCell ⟨g, 3, none⟩ d').setCell ⟨g, 4, none⟩ e').setCell ⟨g, 5, none⟩ f') :=
  (((((h.setCell (.inl hg) a').setCell (.inl hg) b').setCell (.inl hg) c').setCell (.inl hg) d').setCell (.inl hg) e').setCell (.inl hg) f'
theorem row_drew {w : World} {base : Nat} {e : TypeId} {size n : Nat} {v : Value} {xs : List Value} (h : w.ownsRow base e size v n xs) : w.drew.ownsRow base e size v n xs := h
theorem NewErr.set6 {w w' : World} {ad : Nat → Addr} {v : Value} {k g : Nat} (h : NewErr w w' ad v k) (hg : g < w.heap.size) (a' b' c' d' e' f' : Value) :
    NewErr w ((((((w'.setCell ⟨g, 0, none⟩ a').setCell ⟨g, 1, none⟩ b').setCell ⟨g, 2, none⟩ c').setCell ⟨g, 3, none⟩ d').setCell ⟨g, 4, none⟩ e').setCell ⟨g, 5, none⟩ f') ad v k :=
  (((((h.set hg a').set hg b').set hg c').set hg d').set hg e').set hg f'

/-! ### New -/
theorem new_ok {B : Nat} {w : World} (hB : B ≤ w.heap.size) (comp : Int) (k : Nat) (h0 : 0 ≤ comp) (h1 : comp < 16) (h2 : 1 ≤ k) (h3 : k ≤ 4) :
    Calls Tryd.prog 8 #[.int .i64 comp, .int .i64 k] w fun e w' => ∃ g S, e = .returned (.tuple #[.pointer (some ⟨g, 0, none⟩), .nilIface]) ∧ ColR B w' g comp k [] S ∧ Fr [] w w' ∧ ∀ b ∈ S, w.heap.size ≤ b := by
  go_enter Tryd.func8, Tryd.ntmps8
  go_wp2_with fail
  go_ret2
  refine ⟨_, _, rfl, ⟨.slice none 0 0, .slice none 0 0, hB, Blk.new _ _ _, by simpa using World.ownsRow_nil _ _ _ _, World.ownsRow_nil _ _ _ _, by simp [Value.ownBlock], by simp, rfl⟩, ?_, by simp [Value.ownBlock]⟩
  (repeat (first | exact Fr.refl _ _ | apply Fr.drew | apply Fr.drewN | apply Fr.alloc | (refine Fr.setCell ?_ (by first | (left; simp [Value.ownBlock]; done) | (right; simp; omega) | (right; simp; done)) _)))

/-! ### wrong -/
theorem wrong_sent {w : World} {ad : Nat → Addr} {k : Nat} :
    Calls Tryd.prog 28 #[sv (ad k)] w fun e w' => ∃ v, e = .returned v ∧ NewErr w w' ad v k ∧ Fr [] w w' := by
  go_enter Tryd.func28, Tryd.ntmps28
  go_wp2_with fail
  refine (at_sent _).mono ?_
  rintro e w' ⟨v, rfl, hn, hf⟩
  obtain ⟨t, a, rfl⟩ := hn.form
  have Hn := hide (And.intro hn hf)
  clear hn hf
  go_wp2
  go_ret
  exact ⟨_, rfl, Hn.out⟩
theorem new_err {K : List Nat} {B : Nat} {w : World} {ad : Nat → Addr} (hs : Sents K B w ad) (hK : 1 ∈ K) (comp k : Int) (hn : comp < 0 ∨ 16 ≤ comp ∨ k < 1 ∨ 4 < k) :
    Calls Tryd.prog 8 #[.int .i64 comp, .int .i64 k] w fun e w' => ∃ v, e = .returned (.tuple #[.pointer none, v]) ∧ NewErr w w' ad v 1 ∧ Fr [] w w' := by
  have c2 := hs.cell 1 hK
  simp only [gOf] at c2
  clear hs
  by_cases h1 : comp < 0
  all_goals by_cases h2 : 16 ≤ comp
  all_goals by_cases h3 : k < 1
  all_goals by_cases h4 : 4 < k
  all_goals first | (exfalso; omega) | skip
  all_goals
    go_enter Tryd.func8, Tryd.ntmps8
    go_wp2_with fail
    refine (at_sent _).mono ?_
    rintro e w' ⟨v, rfl, hn, hf⟩
    obtain ⟨t, a, rfl⟩ := hn.form
    have Hn := hide (And.intro hn hf)
    clear hn hf
    go_wp2
    go_ret2
    exact ⟨_, rfl, Hn.out.1, Hn.out.2⟩

/-! ### fits -/
set_option maxHeartbeats 2000000 in
theorem fits_calls {B : Nat} {w : World} {g : Nat} {comp : Int} {k : Nat} {ps : List Pt} {S : List Nat} (h : ColR B w g comp k ps S) (h2 : 1 ≤ k) (h3 : k ≤ 4) (p : Pt) :
    Calls Tryd.prog 29 #[.pointer (some ⟨g, 0, none⟩), encP p] w fun e w' => e = .returned (.bool (decide (Fits comp k p))) ∧ Fr [] w w' := by
  obtain ⟨vc, vt, hB, hg, -, -, -, -, -⟩ := h
  obtain ⟨c, v0, v1, v2, v3, t⟩ := p
  have c0 := hg.at_ 0 (v := .int .i64 comp) (by rfl)
  have c1 := hg.at_ 1 (v := .int .i64 k) (by rfl)
  have lg := hg.lt
  have n1 := World.new_ne w _ c0
  have n2 := World.new_ne w _ c1
  have n3 : w.heap.size ≠ g := by omega
  have n4 : g ≠ w.heap.size := by omega
  clear hg
  have hw : ∃ w1, w1 = w.alloc (.cells #[.int .i64 c, .int .i64 v0, .int .i64 v1, .int .i64 v2, .int .i64 v3, .int .i64 t] 35) := ⟨_, rfl⟩
  have hf1 : Fr [] w (w.alloc (.cells #[.int .i64 c, .int .i64 v0, .int .i64 v1, .int .i64 v2, .int .i64 v3, .int .i64 t] 35)) := (Fr.refl _ _).alloc _
  have hb1 : Blk (w.alloc (.cells #[.int .i64 c, .int .i64 v0, .int .i64 v1, .int .i64 v2, .int .i64 v3, .int .i64 t] 35)) w.heap.size 35 #[.int .i64 c, .int .i64 v0, .int .i64 v1, .int .i64 v2, .int .i64 v3, .int .i64 t] := Blk.new _ _ _
  have H1 := hide (And.intro hf1 hb1)
  clear hf1 hb1 hw
  obtain hk | hk | hk | hk : k = 1 ∨ k = 2 ∨ k = 3 ∨ k = 4 := by omega
  all_goals
    simp only [encP, boxP]
    rw [hk] at c1
    try simp only [Int.cast_ofNat_Int] at c1
    go_enter Tryd.func29, Tryd.ntmps29
    go_wp2_with fail
    generalize hX : w.alloc _ = w1 at *
    go_loopw [14] (fun s wr => ∃ j : Nat, s = .int .i64 j ∧ (k ≤ 1 → 2 ≤ k + j → v1 = 0) ∧ (k ≤ 2 → 3 ≤ k + j → v2 = 0) ∧ (k ≤ 3 → 4 ≤ k + j → v3 = 0) ∧ k + j ≤ 4 ∧ w1 = wr) (fun s _ => 4 - (intOf s).toNat)
    case atStart => exact ⟨0, rfl, by omega, by omega, by omega, by omega, rfl⟩
    case round =>
      obtain ⟨j, rfl, z1, z2, z3, hj, rfl⟩ := hrel
      obtain ⟨hf, hb⟩ := H1.out
      have d0 := (hf.cell (p := ⟨g, 0, none⟩) lg (by simp)).trans c0
      have b0 := hb.at_ 0 (by rfl)
      have b1 := hb.at_ 1 (by rfl)
      have b2 := hb.at_ 2 (by rfl)
      have b3 := hb.at_ 3 (by rfl)
      have b4 := hb.at_ 4 (by rfl)
      have l1 := hb.lt
      have l2 : g < w1.heap.size := by have := hf.size; omega
      have H2 := hide hf
      clear hf hb c0 c1 H1 hX
      obtain hs | hs | hs | hs : k + j = 1 ∨ k + j = 2 ∨ k + j = 3 ∨ k + j = 4 := by omega
      · first
        | (exfalso; omega)
        | (have hj' : j = 1 - k := by omega
           rw [hk] at hj'
           simp only [Nat.reduceSub] at hj'
           subst hj'
           by_cases y : v1 = 0
           · go_wp2_with fail
             go_roundw
             case rel => exact ⟨2 - k, by rw [hk]; rfl, by omega, by omega, by omega, by omega, trivial⟩
             case measure => simp [intOf]
           · go_wp2_with fail
             go_ret
             refine ⟨ret_eq (bool_eq ?_), H2.out⟩
             symm
             rw [decide_eq_false_iff_not]
             rintro ⟨_, q1, q2, q3⟩
             first | exact y (q1 (by omega)) | exact y (q2 (by omega)) | exact y (q3 (by omega)))
      · first
        | (exfalso; omega)
        | (have hj' : j = 2 - k := by omega
           rw [hk] at hj'
           simp only [Nat.reduceSub] at hj'
           subst hj'
           by_cases y : v2 = 0
           · go_wp2_with fail
             go_roundw
             case rel => exact ⟨3 - k, by rw [hk]; rfl, by omega, by omega, by omega, by omega, trivial⟩
             case measure => simp [intOf]
           · go_wp2_with fail
             go_ret
             refine ⟨ret_eq (bool_eq ?_), H2.out⟩
             symm
             rw [decide_eq_false_iff_not]
             rintro ⟨_, q1, q2, q3⟩
             first | exact y (q1 (by omega)) | exact y (q2 (by omega)) | exact y (q3 (by omega)))
      · first
        | (exfalso; omega)
        | (have hj' : j = 3 - k := by omega
           rw [hk] at hj'
           simp only [Nat.reduceSub] at hj'
           subst hj'
           by_cases y : v3 = 0
           · go_wp2_with fail
             go_roundw
             case rel => exact ⟨4 - k, by rw [hk]; rfl, by omega, by omega, by omega, by omega, trivial⟩
             case measure => simp [intOf]
           · go_wp2_with fail
             go_ret
             refine ⟨ret_eq (bool_eq ?_), H2.out⟩
             symm
             rw [decide_eq_false_iff_not]
             rintro ⟨_, q1, q2, q3⟩
             first | exact y (q1 (by omega)) | exact y (q2 (by omega)) | exact y (q3 (by omega)))
      · have hj' : j = 4 - k := by omega
        rw [hk] at hj'
        simp only [Nat.reduceSub] at hj'
        subst hj'
        go_wp2_with fail
        go_quiet (fail)
        go_wp2_with fail
        go_ret
        refine ⟨ret_eq (bool_eq ?_), H2.out.drewN _⟩
        rw [Bool.eq_iff_iff, beq_iff_eq, decide_eq_true_iff]
        exact ⟨fun q => ⟨q, fun q1 => z1 q1 (by omega), fun q2 => z2 q2 (by omega), fun q3 => z3 q3 (by omega)⟩, fun q => q.1⟩
end Go.Proofs.YtgifeligogjfiaaDoor

/- TrailingZeros32 of package math/bits and List of package schema. -/
import Derived.Test.YtiadeafibfkmeaaDoorMask
import Derived.Outline
namespace Go.Proofs.YtiadeafibfkmeaaDoor
open Go.RowKit

def tab : List Nat := [0, 1, 28, 2, 29, 14, 24, 3, 30, 22, 20, 15, 25, 17, 4, 8, 31, 27, 13, 23, 21, 19, 16, 7, 26, 12, 18, 6, 11, 5, 10, 9]
/-- the table of package math/bits lies as its own initialiser lays it -/
def Tab (w : World) : Prop := 2 < w.heap.size ∧ ∀ i v, tab[i]? = some v → w.cell? ⟨2, i, none⟩ = some (.int .u8 (v : Nat))
theorem tab_of {w : World} (h : ∀ i, w.cell? ⟨2, i, none⟩ = (tab.map fun v => Value.int .u8 (v : Nat))[i]?) : Tab w :=
  ⟨World.block_lt_of_cell? w _ (h 0), fun i v hv => by rw [h i, List.getElem?_map, hv]; rfl⟩
theorem Tab.below {B : Nat} {w w' : World} (h : Tab w) (hB : 2 < B) (hb : Below B w w') : Tab w' := ⟨Nat.lt_of_lt_of_le h.1 hb.size, fun i v hv => (hb.cell (p := ⟨2, i, none⟩) hB).trans (h.2 i v hv)⟩

/-! ### pure: the lowest bit -/
theorem low_ex {m : Nat} (h : m ≠ 0) : ∃ i, m.testBit i = true := by
  obtain ⟨i, hi⟩ := Nat.exists_testBit_of_ne_zero h
  exact ⟨i, hi⟩
def lowFrom (m : Nat) : Nat → Nat → Nat
  | 0, i => i
  | f + 1, i => if m.testBit i then i else lowFrom m f (i + 1)
def tz (m : Nat) : Nat := lowFrom m 32 0
theorem lowFrom_spec (m : Nat) : ∀ f i, (∃ j, i ≤ j ∧ j < i + f ∧ m.testBit j = true) → m.testBit (lowFrom m f i) = true ∧ lowFrom m f i < i + f ∧ ∀ j, i ≤ j → j < lowFrom m f i → m.testBit j = false
  | 0, i, ⟨j, h1, h2, _⟩ => by omega
  | f + 1, i, ⟨j, h1, h2, h3⟩ => by
    unfold lowFrom
    by_cases hb : m.testBit i = true
    · rw [if_pos hb]
      exact ⟨hb, by omega, fun k h4 h5 => by omega⟩
    · rw [if_neg hb]
      have hji : j ≠ i := fun e => hb (e ▸ h3)
      obtain ⟨a, b, c⟩ := lowFrom_spec m f (i + 1) ⟨j, by omega, by omega, h3⟩
      refine ⟨a, by omega, fun k h4 h5 => ?_⟩
      by_cases e : k = i
      · subst e; simpa using hb
      · exact c k (by omega) h5
theorem tz_spec {m : Nat} (h0 : m ≠ 0) (hm : m < 4294967296) : m.testBit (tz m) = true ∧ tz m < 32 ∧ ∀ j, j < tz m → m.testBit j = false := by
  obtain ⟨i, hi⟩ := low_ex h0
  have hi32 : i < 32 := by
    rcases Nat.lt_or_ge i 32 with h | h
    · exact h
    · rw [bit_ge hm h] at hi; cases hi
  obtain ⟨a, b, c⟩ := lowFrom_spec m 32 0 ⟨i, by omega, by omega, hi⟩
  exact ⟨a, by simpa [tz] using b, fun j hj => c j (by omega) hj⟩
theorem low_eq {m : Nat} (h0 : m ≠ 0) (hm : m < 4294967296) : m &&& (4294967296 - m) = 2 ^ tz m := by
  obtain ⟨a, b, c⟩ := tz_spec h0 hm
  -- m = 2^k * (2 q + 1)
  obtain ⟨q, hq⟩ : ∃ q, m = 2 ^ tz m * (2 * q + 1) := by
    refine ⟨m / 2 ^ tz m / 2, ?_⟩
    have hdvd : m % 2 ^ tz m = 0 := by
      apply Nat.eq_of_testBit_eq
      intro i
      rw [Nat.testBit_mod_two_pow, Nat.zero_testBit]
      by_cases hi : i < tz m
      · simp [c i hi]
      · simp [hi]
    have hodd : m / 2 ^ tz m % 2 = 1 := by
      have := a
      rw [Nat.testBit_eq_decide_div_mod_eq] at this
      simpa using this
    have e1 := Nat.div_add_mod m (2 ^ tz m)
    have e2 := Nat.div_add_mod (m / 2 ^ tz m) 2
    rw [hdvd] at e1
    rw [hodd] at e2
    rw [e2]
    omega
  generalize tz m = k at *
  have hp : 0 < 2 ^ k := Nat.two_pow_pos k
  have hm1 : (m - 1) / 2 ^ k = 2 * q := by
    have e : m - 1 = 2 ^ k * (2 * q) + (2 ^ k - 1) := by rw [hq, Nat.mul_add]; omega
    rw [e, Nat.mul_add_div hp, Nat.div_eq_of_lt (by omega), Nat.add_zero]
  have hmd : m / 2 ^ k = 2 * q + 1 := by rw [hq, Nat.mul_div_cancel_left _ hp]
  apply Nat.eq_of_testBit_eq
  intro i
  have e0 : 4294967296 - m = 2 ^ 32 - (m - 1 + 1) := by omega
  rw [Nat.testBit_and, e0, Nat.testBit_two_pow_sub_succ (by omega), Nat.testBit_two_pow]
  rcases Nat.lt_or_ge i k with hi | hi
  · rw [c i hi]
    simp
    omega
  · obtain ⟨j, rfl⟩ : ∃ j, i = k + j := ⟨i - k, by omega⟩
    rw [Nat.add_comm k j, ← Nat.testBit_div_two_pow, ← Nat.testBit_div_two_pow, hm1, hmd]
    cases j with
    | zero => simp [b]
    | succ j =>
      rw [Nat.testBit_succ, Nat.testBit_succ, show (2 * q + 1) / 2 = q from by omega, show 2 * q / 2 = q from by omega]
      cases q.testBit j <;> simp
theorem tab_num (p : Nat) : ((p : Int) * 125613361 % 4294967296 / 134217728).toNat = p * 125613361 % 4294967296 / 134217728 := by
  have e : (p : Int) * 125613361 % 4294967296 / 134217728 = ((p * 125613361 % 4294967296 / 134217728 : Nat) : Int) := by simp
  rw [e, Int.toNat_natCast]
theorem tab_at : ∀ k, k < 32 → tab[2 ^ k * 125613361 % 4294967296 / 134217728]? = some k := by decide
set_option maxRecDepth 100000 in
theorem tz_calls {w : World} (hT : Tab w) (m : Nat) (hm : m < 4294967296) (h0 : m ≠ 0) :
    Calls Tryd.prog 49 #[.int .u32 m] w fun e w' => e = .returned (.int .i64 (tz m)) ∧ w = w' := by
  have hk := (tz_spec h0 hm).2.1
  have hmz : ((m : Int) == 0) = false := by simp; omega
  have hneg : (-(m : Int)) % 4294967296 = ((4294967296 - m : Nat) : Int) := by omega
  have hcell : w.cell? ⟨2, (bits BinOp.and IntKind.u32 (m : Int) (-(m : Int) % 4294967296) * 125613361 % 4294967296 / 134217728).toNat, none⟩ = some (.int .u8 (tz m : Nat)) := by
    rw [hneg, u32_and_nat m _ hm (by omega), low_eq h0 hm, tab_num]
    exact hT.2 _ (tz m) (tab_at (tz m) hk)
  clear hT hm hneg h0
  go_enter Tryd.func49, Tryd.ntmps49
  go_wp2_with fail
  go_ret
  exact ⟨rfl, rfl⟩

/-! ### List -/
theorem infoInt : (Tryd.prog.info? 3).map (fun i => (i.zero, i.size, i.bytes)) = some (some (.int .i64 0), 1, 8) := by kernel_rfl
def bitsOf (m : Nat) : List Nat := (List.range 32).filter m.testBit
theorem bitsOf_zero : bitsOf 0 = [] := by
  unfold bitsOf
  rw [List.filter_eq_nil_iff]
  intro a _
  simp
theorem bitsOf_len (m : Nat) : (bitsOf m).length ≤ 32 := by
  have := List.length_filter_le m.testBit (List.range 32)
  simpa [bitsOf] using this
theorem bitsOf_step {m : Nat} (h0 : m ≠ 0) (hm : m < 4294967296) : bitsOf m = tz m :: bitsOf (wout m (tz m)) := by
  obtain ⟨a, b, c⟩ := tz_spec h0 hm
  unfold bitsOf
  have hr : List.range 32 = List.range' 0 (tz m) ++ tz m :: List.range' (tz m + 1) (31 - tz m) := by
    have e1 : 32 = tz m + (31 - tz m + 1) := by omega
    rw [List.range_eq_range', e1, ← List.range'_append_1, List.range'_succ, Nat.zero_add]
  generalize hk : tz m = k at *
  rw [hr, List.filter_append, List.filter_append, List.filter_cons, List.filter_cons, if_pos a, if_neg (by rw [wout_bit _ _ _ hm b]; simp)]
  have z1 : (List.range' 0 k).filter m.testBit = [] := by
    rw [List.filter_eq_nil_iff]
    intro i hi
    rw [List.mem_range'_1] at hi
    rw [c i (by omega)]
    simp
  have z2 : (List.range' 0 k).filter (wout m k).testBit = [] := by
    rw [List.filter_eq_nil_iff]
    intro i hi
    rw [List.mem_range'_1] at hi
    rw [wout_bit _ _ _ hm b, c i (by omega)]
    simp
  rw [z1, z2, List.nil_append, List.nil_append]
  congr 1
  apply List.filter_congr
  intro i hi
  rw [List.mem_range'_1] at hi
  rw [wout_bit _ _ _ hm b]
  have : k ≠ i := by omega
  simp [this]
theorem wout_lt {m : Nat} (h0 : m ≠ 0) (hm : m < 4294967296) : wout m (tz m) < m := by
  obtain ⟨a, b, c⟩ := tz_spec h0 hm
  have h1 := wout_le m (tz m)
  have h2 : wout m (tz m) ≠ m := fun e => by
    have := congrArg (fun x => x.testBit (tz m)) e
    simp only [wout_bit _ _ _ hm b, a] at this
    simp at this
  omega
def ints (xs : List Int) : List Value := xs.map (Value.int .i64)
abbrev nats (l : List Nat) : List Value := ints (l.map fun n : Nat => (n : Int))
theorem Tab.fr0 {w w' : World} (h : Tab w) (hf : Fr [] w w') : Tab w' := ⟨Nat.lt_of_lt_of_le h.1 hf.size, fun i v hv => (hf.cell (p := ⟨2, i, none⟩) h.1 (by simp)).trans (h.2 i v hv)⟩
set_option maxRecDepth 100000 in
set_option maxHeartbeats 2000000 in
theorem list_calls {w : World} (hT : Tab w) (m : Nat) (hm : m < 4294967296) :
    Calls Tryd.prog 32 #[.int .u32 m] w fun e w' => ∃ v, e = .returned v ∧ w'.ownsRow w.heap.size 3 1 v (bitsOf m).length (nats (bitsOf m)) ∧ Fr [] w w' := by
  have HT := hide hT
  have Hm := hide hm
  obtain ⟨i0, hi0, hz0, hz1, hz2⟩ := info_parts infoInt
  clear hT hm
  go_enter Tryd.func32, Tryd.ntmps32
  go_wp2_with fail
  go_loopw [0, 2] (fun s0 s2 wr => ∃ (k : Nat) (l : List Nat), s0 = .int .u32 k ∧ k ≤ m ∧ bitsOf m = l ++ bitsOf k ∧ wr.ownsRow w.heap.size 3 1 s2 l.length (nats l) ∧ Fr [] w wr) (fun s0 _ _ => (intOf s0).toNat)
  case atStart => exact ⟨m, [], rfl, Nat.le_refl _, rfl, World.ownsRow_nil _ _ _ _, Fr.refl _ _⟩
  case round =>
    obtain ⟨k, l, rfl, hk, hl, hr, hf⟩ := hrel
    have hlen : l.length ≤ 32 := by
      have h1 := bitsOf_len m
      rw [hl, List.length_append] at h1
      omega
    by_cases hk0 : k = 0
    · have hb : ((k : Int) != 0) = false := by simp [hk0]
      have hlm : bitsOf m = l := by rw [hl, hk0, bitsOf_zero, List.append_nil]
      have H := hide (And.intro hr (And.intro hf hlm))
      clear hr hf hlm hl hk0
      go_wp2_with fail
      go_ret
      exact ⟨_, rfl, by rw [H.out.2.2]; exact H.out.1, H.out.2.1⟩
    · have hb : ((k : Int) != 0) = true := by simp; omega
      have hk32 : k < 4294967296 := by have := Hm.out; omega
      have H := hide (And.intro hr (And.intro hf (And.intro hl (And.intro hk (And.intro hk0 hk32)))))
      have HZ := hide (tz_calls (HT.out.fr0 hf) k hk32 hk0)
      have HO := hide (fun w => without_calls k (tz k) hk32 (tz_spec hk0 hk32).2.1 w)
      have hz := (tz_spec hk0 hk32).2.1
      have hsz := hf.size
      clear hr hf hl hk hk0 hk32
      go_wp2_with fail
      refine HZ.out.mono ?_
      rintro e w' ⟨rfl, rfl⟩
      go_wp2_with (at_builtin; refine wpList_append_lies _ rfl _ _ _ rfl w.heap.size 3 i0 _ 1 8 Tryd.underlying64 hi0 hz0 hz1 hz2 rfl (by omega) (u2) (l.length) (nats l) rfl ((H.out.1.alloc _)) ⟨wr.heap.size, 0, none⟩ 1 1 [.int .i64 (tz k : Nat)] rfl rfl (World.news_of_block (cs := #[.int .i64 (tz k : Nat)]) (t := 3) (fr := (0, 0)) (Blk.new_at _ _ _ _ (by simp))) (by simp [Value.oneCell']) (by omega) (by unfold maxLen; omega) (by omega) (by simp; omega) (wr.heap.size + 1) (by simp) ?_; intro gg cap w3 hown3 hgrow hat hlt3)
      refine (HO.out _).mono ?_
      rintro e w' ⟨rfl, rfl⟩
      go_wp2_with fail
      go_roundw
      case rel =>
        obtain ⟨hr, hf, hl, hk, hk0, hk32⟩ := H.out
        refine ⟨wout k (tz k), l ++ [tz k], rfl, by have := wout_le k (tz k); omega, ?_, ?_, (hf.alloc _).grown hgrow (fun b hb => .inr (row_lt hr hb).2)⟩
        · rw [hl, bitsOf_step hk0 hk32, List.append_assoc, List.singleton_append]
        · rw [List.length_append, List.length_singleton]
          have e : nats (l ++ [tz k]) = nats l ++ [.int .i64 (tz k : Nat)] := by simp [nats, ints]
          rw [e]
          exact hown3
      case measure =>
        have := wout_lt H.out.2.2.2.2.1 H.out.2.2.2.2.2
        simp [intOf]; omega
end Go.Proofs.YtiadeafibfkmeaaDoor

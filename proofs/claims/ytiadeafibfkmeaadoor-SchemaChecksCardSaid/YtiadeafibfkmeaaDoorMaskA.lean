/- Sets of numbers whatever they are: bit, With, Without, Has, Of; kinds of a schema. -/
import Derived.Test.YtiadeafibfkmeaaDoorMask
import Derived.Test.YtiadeafibfkmeaaDoorComp
namespace Go.Proofs.YtiadeafibfkmeaaDoor
open Go.RowKit
def bitN (c : Int) : Nat := if 0 ≤ c ∧ c < 32 then 2 ^ c.toNat else 0
theorem bitN_in {c : Nat} (h : c < 32) : bitN c = 2 ^ c := by
  unfold bitN; rw [if_pos (by omega)]; simp
theorem bitN_out {c : Int} (h : c < 0 ∨ 32 ≤ c) : bitN c = 0 := by
  unfold bitN; rw [if_neg (by omega)]
theorem bitN_lt (c : Int) : bitN c < 4294967296 := by
  unfold bitN
  split
  · rename_i h
    exact pow_lt32 (by omega)
  · omega
theorem bitA_calls (c : Int) (w : World) : Calls Tryd.prog 48 #[.int .i64 c] w fun e w' => e = .returned (.int .u32 ((bitN c : Nat) : Int)) ∧ w = w' := by
  by_cases h0 : c < 0
  · rw [bitN_out (.inl h0)]
    go_enter Tryd.func48, Tryd.ntmps48
    go_wp2_with fail
    go_ret
    exact ⟨rfl, rfl⟩
  · by_cases h1 : 32 ≤ c
    · rw [bitN_out (.inr h1)]
      go_enter Tryd.func48, Tryd.ntmps48
      go_wp2_with fail
      go_ret
      exact ⟨rfl, rfl⟩
    · obtain ⟨k, rfl⟩ := Int.eq_ofNat_of_zero_le (a := c) (by omega)
      rw [bitN_in (by omega)]
      exact bit_calls k (by omega) w
theorem withA_calls (m : Nat) (hm : m < 4294967296) (c : Int) (w : World) : Calls Tryd.prog 29 #[.int .u32 m, .int .i64 c] w fun e w' => e = .returned (.int .u32 ((m ||| bitN c : Nat) : Int)) ∧ w = w' := by
  have H := hide (u32_or_nat m (bitN c) hm (bitN_lt c))
  have H2 := hide (bitA_calls c w)
  go_enter Tryd.func29, Tryd.ntmps29
  go_wp2_with fail
  refine H2.out.mono ?_
  rintro e w' ⟨rfl, rfl⟩
  go_wp2_with fail
  go_ret
  exact ⟨ret_eq (congrArg (Value.int .u32) H.out), rfl⟩
theorem withoutA_calls (m : Nat) (hm : m < 4294967296) (c : Int) (w : World) : Calls Tryd.prog 30 #[.int .u32 m, .int .i64 c] w fun e w' => e = .returned (.int .u32 ((m &&& (4294967295 - bitN c) : Nat) : Int)) ∧ w = w' := by
  have H := hide (u32_andNot_nat m (bitN c) hm (bitN_lt c))
  have H2 := hide (bitA_calls c w)
  go_enter Tryd.func30, Tryd.ntmps30
  go_wp2_with fail
  refine H2.out.mono ?_
  rintro e w' ⟨rfl, rfl⟩
  go_wp2_with fail
  go_ret
  exact ⟨ret_eq (congrArg (Value.int .u32) H.out), rfl⟩
def hasN (m : Nat) (c : Int) : Bool := decide (m &&& bitN c ≠ 0)
theorem hasA_calls (m : Nat) (hm : m < 4294967296) (c : Int) (w : World) : Calls Tryd.prog 25 #[.int .u32 m, .int .i64 c] w fun e w' => e = .returned (.bool (hasN m c)) ∧ w = w' := by
  have H := hide (u32_and_nat m (bitN c) hm (bitN_lt c))
  have H2 := hide (bitA_calls c w)
  go_enter Tryd.func25, Tryd.ntmps25
  go_wp2_with fail
  refine H2.out.mono ?_
  rintro e w' ⟨rfl, rfl⟩
  go_wp2_with fail
  go_ret
  refine ⟨ret_eq (bool_eq ?_), rfl⟩
  rw [H.out]
  unfold hasN
  rw [Bool.eq_iff_iff, bne_iff_ne, decide_eq_true_iff]
  omega
def encN (x : Int) : List Value := [.int .i64 x]
theorem encN_len (x : Int) : (encN x).length = 1 := rfl
/-- the set of numbers -/
def setN (xs : List Int) : Nat := xs.foldl (fun m c => m ||| bitN c) 0
theorem setN_snoc {xs : List Int} {i : Nat} {x : Int} (hx : xs[i]? = some x) : setN (xs.take (i + 1)) = setN (xs.take i) ||| bitN x := by
  unfold setN
  rw [List.take_add_one, hx, List.foldl_append]; rfl
theorem or_lt32 {a b : Nat} (ha : a < 4294967296) (hb : b < 4294967296) : a ||| b < 4294967296 := Nat.or_lt_two_pow (n := 32) ha hb
theorem setN_lt : ∀ (xs : List Int), setN xs < 4294967296 := by
  intro xs
  unfold setN
  have key : ∀ (l : List Int) (m : Nat), m < 4294967296 → l.foldl (fun m c => m ||| bitN c) m < 4294967296 := by
    intro l
    induction l with
    | nil => exact fun m h => h
    | cons a l ih => exact fun m h => ih _ (or_lt32 h (bitN_lt a))
  exact key xs 0 (by omega)
set_option maxHeartbeats 1000000 in
theorem setOf_calls {w : World} {A : Option Addr} {n c : Nat} {xs : List Int} (hr : Reads w w.heap.size 1 A n (xs.flatMap encN)) (hl : xs.length = n) (hn : n ≤ 1000) :
    Calls Tryd.prog 31 #[.slice A n c] w fun e w' => e = .returned (.int .u32 ((setN xs : Nat) : Int)) ∧ w = w' := by
  have HR := hide (And.intro hr hl)
  clear hr hl
  go_enter Tryd.func31, Tryd.ntmps31
  go_wp2_with fail
  go_loopw [2, 4, 7] (fun s2 s4 s7 wr => w = wr ∧ ∃ i : Nat, i ≤ n ∧ s7 = .int .i64 i ∧ s2 = .int .u32 ((setN (xs.take i) : Nat) : Int)) (fun _ _ s7 _ => n - (intOf s7).toNat)
  case atStart => exact ⟨rfl, 0, by omega, rfl, rfl⟩
  case round =>
    obtain ⟨rfl, i, hi, rfl, rfl⟩ := hrel
    have i0 : (0 : Int) ≤ (i : Int) := by omega
    by_cases hin : i < n
    · have i1 : (i : Int) < (n : Int) := by omega
      obtain ⟨x, hx⟩ : ∃ x, xs[i]? = some x := ⟨xs[i]'(by have := HR.out.2; omega), by simp⟩
      obtain ⟨b, off, rfl, hb, hcl⟩ := HR.out.1.at_ encN_len hx HR.out.2
      have a0 := hcl 0 (.int .i64 x) rfl
      rw [Nat.mul_one, Nat.add_zero] at a0
      have hs := setN_snoc hx
      have Hor := hide (u32_or_nat (setN (xs.take i)) (bitN x) (setN_lt _) (bitN_lt x))
      rw [← hs] at Hor
      have HB := hide (bitA_calls x w)
      clear hcl hx hs
      generalize setN (xs.take i) = m at *
      go_wp2_with fail
      refine HB.out.mono ?_
      rintro e w' ⟨rfl, rfl⟩
      go_wp2_with fail
      go_roundw
      case rel => exact ⟨trivial, i + 1, by omega, by go_num, congrArg (Value.int .u32) Hor.out⟩
      case measure => simp [intOf]; omega
    · obtain rfl : n = i := by omega
      rw [List.take_of_length_le (by rw [HR.out.2]; omega)]
      go_wp2_with fail
      go_ret
      exact ⟨rfl, rfl⟩
/-- the components of a kind, as a set -/
def kindN (cs : List Cp) (r : Bool) (k : Nat) : Nat := (List.range k).foldl (fun m i => match cs[i]? with | some x => if x.roll = r then m ||| bitN i else m | none => m) 0
theorem kindN_succ {cs : List Cp} {r : Bool} {k : Nat} {x : Cp} (hx : cs[k]? = some x) : kindN cs r (k + 1) = if x.roll = r then kindN cs r k ||| bitN k else kindN cs r k := by
  unfold kindN
  rw [List.range_succ, List.foldl_append]
  simp [hx]
theorem kindN_lt (cs : List Cp) (r : Bool) (k : Nat) : kindN cs r k < 4294967296 := by
  induction k with
  | zero => simp [kindN]
  | succ k ih =>
    cases hx : cs[k]? with
    | some x =>
      rw [kindN_succ hx]
      split
      · exact or_lt32 ih (bitN_lt _)
      · exact ih
    | none =>
      have : kindN cs r (k + 1) = kindN cs r k := by
        unfold kindN
        rw [List.range_succ, List.foldl_append]
        simp [hx]
      rw [this]; exact ih
set_option maxRecDepth 100000 in
set_option maxHeartbeats 4000000 in
theorem kinds_calls {B : Nat} {w : World} {s : Sa} (hS : SaOk w B s) (hB : B ≤ w.heap.size) (r : Bool) :
    Calls Tryd.prog 46 #[s.val, .bool r] w fun e w' => e = .returned (.int .u32 ((kindN s.cs r s.n1 : Nat) : Int)) ∧ Fr [] w w' := by
  have HS_ := hide hS
  have hb1 := hS.b1
  have hv : s.val = .agg #[.slice s.A1 s.n1 s.c1, .slice s.A2 s.n2 s.c2] := rfl
  rw [hv]
  clear hS hv
  go_enter Tryd.func46, Tryd.ntmps46
  go_wp2_with fail
  go_loopw [4, 5, 6, 10] (fun s4 s5 s6 s10 wr => ∃ i : Nat, i ≤ s.n1 ∧ s10 = .int .i64 i ∧ s4 = .int .u32 ((kindN s.cs r i : Nat) : Int) ∧ Fr [] w wr) (fun _ _ _ s10 _ => s.n1 - (intOf s10).toNat)
  case atStart => exact ⟨0, by omega, rfl, rfl, (Fr.refl _ _).alloc _⟩
  case round =>
    obtain ⟨i, hi, rfl, rfl, hf⟩ := hrel
    have i0 : (0 : Int) ≤ (i : Int) := by omega
    by_cases hin : i < s.n1
    · have i1 : (i : Int) < (s.n1 : Int) := by omega
      obtain ⟨x, hx⟩ : ∃ x, s.cs[i]? = some x := ⟨s.cs[i]'(by have := HS_.out.l1; omega), by simp⟩
      obtain ⟨b, off, hA, hb, hcl⟩ := HS_.out.r1.at_ encC_len hx HS_.out.l1
      have hbw : b < w.heap.size := by omega
      have hcl' := fun (j : Nat) u (hu : (encC x)[j]? = some u) => (hf.cell (p := ⟨b, off + (i * 7 + j), none⟩) hbw (by simp)).trans (hcl j u hu)
      have a0 := hcl' 0 _ rfl
      have a1 := hcl' 1 _ rfl
      have a2 := hcl' 2 _ rfl
      have a3 := hcl' 3 _ rfl
      have a4 := hcl' 4 _ rfl
      have a5 := hcl' 5 _ rfl
      have a6 := hcl' 6 _ rfl
      rw [Nat.add_zero] at a0
      rw [← Nat.add_assoc] at a1 a2 a3 a4 a5 a6
      have hks := kindN_succ (r := r) hx
      have HW := hide (fun W => withA_calls (kindN s.cs r i) (kindN_lt _ _ _) i W)
      have Hf := hide (And.intro hf hks)
      have lbr := Nat.lt_of_lt_of_le hbw hf.size
      clear hcl hcl' hx hf hks hb
      rw [hA]
      generalize kindN s.cs r i = m at *
      by_cases hr : x.roll = r
      · rw [hr] at a2
        have Hr := hide hr
        clear hr
        have hrr : (r == r) = true := by cases r <;> rfl
        go_wp2_with fail
        refine (HW.out _).mono ?_
        rintro e w' ⟨rfl, rfl⟩
        go_wp2_with fail
        go_roundw
        case rel => exact ⟨i + 1, by omega, by go_num, by rw [Hf.out.2, if_pos Hr.out], Hf.out.1.alloc _⟩
        case measure => simp [intOf]; omega
      · have Hr := hide hr
        have hrr : (x.roll == r) = false := by simpa using hr
        clear hr
        go_wp2_with fail
        go_roundw
        case rel => exact ⟨i + 1, by omega, by go_num, by rw [Hf.out.2, if_neg Hr.out], Hf.out.1.alloc _⟩
        case measure => simp [intOf]; omega
    · obtain hie : i = s.n1 := by omega
      have hn : ¬ (i : Int) < (s.n1 : Int) := by omega
      rw [hie]
      rw [hie] at hn
      have Hf := hide hf
      clear hf hie
      go_wp2_with fail
      go_ret
      exact ⟨rfl, Hf.out⟩
theorem roll_calls {B : Nat} {w : World} {s : Sa} (hS : SaOk w B s) (hB : B ≤ w.heap.size) :
    Calls Tryd.prog 21 #[s.val] w fun e w' => e = .returned (.int .u32 ((kindN s.cs true s.n1 : Nat) : Int)) ∧ Fr [] w w' := by
  have hf : Fr [] w (w.alloc (.cells #[.slice s.A1 s.n1 s.c1, .slice s.A2 s.n2 s.c2] 25)) := (Fr.refl _ _).alloc _
  have HK := hide (kinds_calls (hS.fr hf (by simp) hB) (Nat.le_trans hB hf.size) true)
  have Hf := hide hf
  clear hS hf
  have hv : s.val = .agg #[.slice s.A1 s.n1 s.c1, .slice s.A2 s.n2 s.c2] := rfl
  rw [hv] at *
  clear hv
  go_enter Tryd.func21, Tryd.ntmps21
  go_wp2_with fail
  refine HK.out.mono ?_
  rintro e w' ⟨rfl, hf⟩
  have H1 := hide (Hf.out.trans hf)
  clear hf
  go_wp2_with fail
  go_ret
  exact ⟨rfl, H1.out⟩
theorem shown_calls {B : Nat} {w : World} {s : Sa} (hS : SaOk w B s) (hB : B ≤ w.heap.size) :
    Calls Tryd.prog 23 #[s.val] w fun e w' => e = .returned (.int .u32 ((kindN s.cs false s.n1 : Nat) : Int)) ∧ Fr [] w w' := by
  have hf : Fr [] w (w.alloc (.cells #[.slice s.A1 s.n1 s.c1, .slice s.A2 s.n2 s.c2] 25)) := (Fr.refl _ _).alloc _
  have HK := hide (kinds_calls (hS.fr hf (by simp) hB) (Nat.le_trans hB hf.size) false)
  have Hf := hide hf
  clear hS hf
  have hv : s.val = .agg #[.slice s.A1 s.n1 s.c1, .slice s.A2 s.n2 s.c2] := rfl
  rw [hv] at *
  clear hv
  go_enter Tryd.func23, Tryd.ntmps23
  go_wp2_with fail
  refine HK.out.mono ?_
  rintro e w' ⟨rfl, hf⟩
  have H1 := hide (Hf.out.trans hf)
  clear hf
  go_wp2_with fail
  go_ret
  exact ⟨rfl, H1.out⟩
end Go.Proofs.YtiadeafibfkmeaaDoor

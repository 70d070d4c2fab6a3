/- The reference's Kinds. -/
import Derived.Test.YtiadeafibfkmeaaDoorMaskA
namespace Go.Proofs.YtiadeafibfkmeaaDoor
open Go.RowKit
theorem kindN_step {cs : List Cp} {r : Bool} {k : Nat} (h : 32 ≤ k) : kindN cs r (k + 1) = kindN cs r k := by
  unfold kindN
  rw [List.range_succ, List.foldl_append]
  cases hx : cs[k]? with
  | none => simp [hx]
  | some x =>
    have hb : bitN (k : Int) = 0 := bitN_out (.inr (by omega))
    simp [hx, hb]
theorem kindN_cap {cs : List Cp} {r : Bool} : ∀ d, kindN cs r (32 + d) = kindN cs r 32 := by
  intro d
  induction d with
  | zero => rfl
  | succ d ih => rw [← Nat.add_assoc, kindN_step (by omega), ih]
set_option maxRecDepth 100000 in
set_option maxHeartbeats 4000000 in
theorem rkinds_calls {B : Nat} {w : World} {s : Sa} (hS : SaOk w B s) (hB : B ≤ w.heap.size) (r : Bool) :
    Calls Tryd.prog 22 #[s.val, .bool r] w fun e w' => e = .returned (.int .u32 ((kindN s.cs r s.n1 : Nat) : Int)) ∧ Fr [] w w' := by
  have HS_ := hide hS
  have hb1 := hS.b1
  have hv : s.val = .agg #[.slice s.A1 s.n1 s.c1, .slice s.A2 s.n2 s.c2] := rfl
  rw [hv]
  clear hS hv
  go_enter Tryd.func22, Tryd.ntmps22
  go_upto_region 1 with (fail)
  have hb := Blk.new w 25 #[.slice s.A1 s.n1 s.c1, .slice s.A2 s.n2 s.c2]
  have hf1 : Fr [] w (w.alloc (.cells #[.slice s.A1 s.n1 s.c1, .slice s.A2 s.n2 s.c2] 25)) := (Fr.refl _ _).alloc _
  generalize w.alloc (.cells #[.slice s.A1 s.n1 s.c1, .slice s.A2 s.n2 s.c2] 25) = w1 at *
  have p0 := hb.at_ 0 (v := .slice s.A1 s.n1 s.c1) rfl
  have lp := hb.lt
  have HF := hide hf1
  clear hb hf1
  go_wp2_with fail
  go_loopw [5, 6] (fun s5 s6 wr => w1 = wr ∧ ∃ i : Nat, i ≤ s.n1 ∧ i ≤ 32 ∧ s6 = .int .i64 i ∧ s5 = .int .u32 ((kindN s.cs r i : Nat) : Int)) (fun _ s6 _ => s.n1 - (intOf s6).toNat)
  case atStart => exact ⟨rfl, 0, by omega, by omega, rfl, rfl⟩
  case round =>
    obtain ⟨rfl, i, hi, hi32, rfl, rfl⟩ := hrel
    have j0 : (0 : Int) ≤ (i : Int) := by omega
    by_cases hin : i < s.n1
    · have j1 : (i : Int) < (s.n1 : Int) := by omega
      by_cases h32 : i < 32
      · have j2 : (i : Int) < 32 := by omega
        obtain ⟨x, hx⟩ : ∃ x, s.cs[i]? = some x := ⟨s.cs[i]'(by have := HS_.out.l1; omega), by simp⟩
        obtain ⟨b, off, hA, hbB, hcl⟩ := HS_.out.r1.at_ encC_len hx HS_.out.l1
        have hbw : b < w.heap.size := by omega
        have a2 := (HF.out.cell (p := ⟨b, off + (i * 7 + 2), none⟩) hbw (by simp)).trans (hcl 2 (.bool x.roll) rfl)
        rw [← Nat.add_assoc] at a2
        have lbr := Nat.lt_of_lt_of_le hbw HF.out.size
        rw [hA] at p0
        have HA := hide hA
        have hks := kindN_succ (r := r) hx
        have hlt := kindN_lt s.cs r i
        have hor := u32_or_nat (kindN s.cs r i) (2 ^ i) hlt (pow_lt32 h32)
        have he : ((2 : Int) ^ i % 4294967296) = ((2 ^ i : Nat) : Int) := by
          have e1 : ((2 : Int) ^ i) = ((2 ^ i : Nat) : Int) := by simp
          rw [e1]; exact Int.emod_eq_of_lt (Int.natCast_nonneg _) (Int.ofNat_lt.2 (pow_lt32 h32))
        rw [bitN_in h32] at hks
        have HK := hide (And.intro hks (And.intro hor he))
        clear hcl hx hA hks hlt hor he
        by_cases hr : x.roll = r
        · have hr1 : (x.roll == r) = true := by rw [hr]; cases r <;> rfl
          have Hr := hide hr
          clear hr
          go_wp2_with fail
          go_roundw
          case rel =>
            refine ⟨trivial, i + 1, by omega, by omega, by go_num, ?_⟩
            rw [HK.out.1, if_pos Hr.out]
            refine congrArg (Value.int .u32) ?_
            rw [← HK.out.2.1, ← HK.out.2.2]
          case measure => simp [intOf]; omega
        · have hr1 : (x.roll == r) = false := by simpa using hr
          have Hr := hide hr
          clear hr
          go_wp2_with fail
          go_roundw
          case rel => exact ⟨trivial, i + 1, by omega, by omega, by go_num, by rw [HK.out.1, if_neg Hr.out]⟩
          case measure => simp [intOf]; omega
      · have j2 : ¬ (i : Int) < 32 := by omega
        have hk : kindN s.cs r i = kindN s.cs r s.n1 := by
          have e1 : i = 32 := by omega
          rw [e1, show s.n1 = 32 + (s.n1 - 32) by omega, kindN_cap]
        have HK := hide hk
        clear hk
        go_wp2_with fail
        go_ret
        exact ⟨by rw [← HK.out]; rfl, HF.out⟩
    · obtain hie : i = s.n1 := by omega
      have j1 : ¬ (i : Int) < (s.n1 : Int) := by omega
      have Hie := hide hie
      clear hie
      go_wp2_with fail
      go_ret
      exact ⟨by rw [← Hie.out]; rfl, HF.out⟩
end Go.Proofs.YtiadeafibfkmeaaDoor

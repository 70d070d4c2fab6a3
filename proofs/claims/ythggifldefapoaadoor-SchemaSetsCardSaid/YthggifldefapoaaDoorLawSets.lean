/- SchemaSets: the walk of the law. -/
import Derived.Test.YthggifldefapoaaDoorRefSets
import Derived.Test.YthggifldefapoaaDoorAwakeS
namespace Go.Proofs.YthggifldefapoaaDoor
open Go.RowKit
theorem setN_one (c : Int) : setN [c] = bitN c := by simp [setN]
set_option maxRecDepth 100000 in
set_option maxHeartbeats 8000000 in
theorem sets_walk {w : World} {ad : Nat → Addr} (hs : Sents All18 w.heap.size w ad) (m a : Nat) (hm : m < 4294967296) (ha : a < 4294967296) (c : Int) :
    Calls Tryd.prog 5 #[.int .u32 m, .int .u32 a, .int .i64 c] w fun e w' => e = .returned (.bool true) ∧ Below w.heap.size w w' := by
  have HA := hide (awake_calls hs)
  have f1 := u32_andNot_nat m a hm ha
  have f2 := u32_or_nat m (bitN c) hm (bitN_lt c)
  have f3 := u32_andNot_nat m (bitN c) hm (bitN_lt c)
  have C1 := hide (fun W => hasA_calls m hm c W)
  have C2 := hide (fun W => rhas_calls (w := W) m hm c)
  have C3 := hide (fun W => count_calls (w := W) m hm)
  have C4 := hide (fun W => rcount_calls (w := W) m hm)
  have C5 := hide (fun W => within_calls m a hm ha W)
  have C6 := hide (fun W => withA_calls m hm c W)
  have C7 := hide (fun W => withoutA_calls m hm c W)
  have C8 := hide (fun (W : World) => setOf_calls (w := W.alloc (.cells #[.int .i64 c] 3)) (A := some ⟨W.heap.size, 0, none⟩) (n := 1) (c := 1) (xs := [c]) ⟨rfl, fun _ => ⟨_, 0, rfl, (Blk.new W _ _).lt, fun j u hu => by rw [Nat.zero_add]; exact (Blk.new W 3 #[.int .i64 c]).at_ j (by rw [← hu]; simp [encN])⟩⟩ rfl (by omega))
  rw [setN_one] at C8
  clear hs hm ha
  generalize hx : (m &&& 4294967295 - a) = x at *
  generalize hasN m c = q at *
  generalize (bitsOf m).length = cnt at *
  have ways : (c < 0 ∧ bitN c = 0) ∨ (32 ≤ c ∧ bitN c = 0) ∨ ∃ n : Nat, c = n ∧ n < 32 ∧ ((2 : Int) ^ n % 4294967296 = ((bitN c : Nat) : Int)) := by
    by_cases h0 : c < 0
    · exact .inl ⟨h0, bitN_out (.inl h0)⟩
    · by_cases h1 : 32 ≤ c
      · exact .inr (.inl ⟨h1, bitN_out (.inr h1)⟩)
      · obtain ⟨n, rfl⟩ := Int.eq_ofNat_of_zero_le (a := c) (by omega)
        have hn : n < 32 := by omega
        refine .inr (.inr ⟨n, rfl, hn, ?_⟩)
        rw [bitN_in hn]
        have e1 : ((2 : Int) ^ n) = ((2 ^ n : Nat) : Int) := by simp
        rw [e1]
        exact Int.emod_eq_of_lt (Int.natCast_nonneg _) (Int.ofNat_lt.2 (pow_lt32 hn))
  generalize bitN c = bc at *
  generalize ((m ||| bc : Nat) : Int) = R2 at *
  generalize ((m &&& (4294967295 - bc) : Nat) : Int) = R3 at *
  generalize hbi : ((bc : Nat) : Int) = bi at *
  have hxw : (x = 0 ∧ decide (x = 0) = true ∧ ((x : Int) == 0) = true) ∨ (x ≠ 0 ∧ decide (x = 0) = false ∧ ((x : Int) == 0) = false) := by
    by_cases h : x = 0
    · exact .inl ⟨h, by simp [h], by simp [h]⟩
    · exact .inr ⟨h, by simp [h], by simp; omega⟩
  have hqq : (q == q) = true := by cases q <;> rfl
  generalize hy : decide (x = 0) = y at *
  clear hx hy
  rcases ways with ⟨h0, hb⟩ | ⟨h0, hb⟩ | ⟨n, rfl, hn, hb⟩
  · have hb2 : bi = 0 := by rw [← hbi, hb]; rfl
    subst hb2
    clear hb hbi
    rcases hxw with ⟨-, hy1, hy2⟩ | ⟨-, hy1, hy2⟩
    all_goals
      subst hy1
      go_enter Tryd.func5, Tryd.ntmps5
      go_wp2_with fail
      refine HA.out.mono ?_
      rintro e w1 ⟨rfl, hf1⟩
      have H1 := hide hf1
      clear hf1
      go_upto_region 6 with (fail)
      go_wp2_with fail
      refine (C1.out _).mono ?_
      rintro e w' ⟨rfl, rfl⟩
      go_wp2_with fail
      refine (C2.out _).mono ?_
      rintro e w' ⟨rfl, rfl⟩
      go_wp2_with fail
      refine (C3.out _).mono ?_
      rintro e w2 ⟨rfl, hf2⟩
      have H2 := hide (H1.out.trans hf2)
      clear hf2
      go_wp2_with fail
      refine (C4.out _).mono ?_
      rintro e w' ⟨rfl, rfl⟩
      go_wp2_with fail
      refine (C5.out _).mono ?_
      rintro e w' ⟨rfl, rfl⟩
      go_wp2_with fail
      refine (C6.out _).mono ?_
      rintro e w' ⟨rfl, rfl⟩
      go_wp2_with fail
      refine (C7.out _).mono ?_
      rintro e w' ⟨rfl, rfl⟩
      go_wp2_with fail
      refine (C8.out _).mono ?_
      rintro e w' ⟨rfl, rfl⟩
      go_wp2_with fail
      go_ret
      exact ⟨rfl, (H2.out.alloc _).below (by simp) (Nat.le_refl _)⟩
  · have hb2 : bi = 0 := by rw [← hbi, hb]; rfl
    subst hb2
    clear hb hbi
    have h1 : ¬ c < 32 := by omega
    have h2 : 0 ≤ c := by omega
    rcases hxw with ⟨-, hy1, hy2⟩ | ⟨-, hy1, hy2⟩
    all_goals
      subst hy1
      go_enter Tryd.func5, Tryd.ntmps5
      go_wp2_with fail
      refine HA.out.mono ?_
      rintro e w1 ⟨rfl, hf1⟩
      have H1 := hide hf1
      clear hf1
      go_upto_region 6 with (fail)
      go_wp2_with fail
      refine (C1.out _).mono ?_
      rintro e w' ⟨rfl, rfl⟩
      go_wp2_with fail
      refine (C2.out _).mono ?_
      rintro e w' ⟨rfl, rfl⟩
      go_wp2_with fail
      refine (C3.out _).mono ?_
      rintro e w2 ⟨rfl, hf2⟩
      have H2 := hide (H1.out.trans hf2)
      clear hf2
      go_wp2_with fail
      refine (C4.out _).mono ?_
      rintro e w' ⟨rfl, rfl⟩
      go_wp2_with fail
      refine (C5.out _).mono ?_
      rintro e w' ⟨rfl, rfl⟩
      go_wp2_with fail
      refine (C6.out _).mono ?_
      rintro e w' ⟨rfl, rfl⟩
      go_wp2_with fail
      refine (C7.out _).mono ?_
      rintro e w' ⟨rfl, rfl⟩
      go_wp2_with fail
      refine (C8.out _).mono ?_
      rintro e w' ⟨rfl, rfl⟩
      go_wp2_with fail
      go_ret
      exact ⟨rfl, (H2.out.alloc _).below (by simp) (Nat.le_refl _)⟩
  · clear hbi
    have h1 : (n : Int) < 32 := by omega
    have h2 : (0 : Int) ≤ (n : Int) := by omega
    rcases hxw with ⟨-, hy1, hy2⟩ | ⟨-, hy1, hy2⟩
    all_goals
      subst hy1
      go_enter Tryd.func5, Tryd.ntmps5
      go_wp2_with fail
      refine HA.out.mono ?_
      rintro e w1 ⟨rfl, hf1⟩
      have H1 := hide hf1
      clear hf1
      go_upto_region 6 with (fail)
      simp only [Int.toNat_natCast, hb]
      go_wp2_with fail
      refine (C1.out _).mono ?_
      rintro e w' ⟨rfl, rfl⟩
      go_wp2_with fail
      refine (C2.out _).mono ?_
      rintro e w' ⟨rfl, rfl⟩
      go_wp2_with fail
      refine (C3.out _).mono ?_
      rintro e w2 ⟨rfl, hf2⟩
      have H2 := hide (H1.out.trans hf2)
      clear hf2
      go_wp2_with fail
      refine (C4.out _).mono ?_
      rintro e w' ⟨rfl, rfl⟩
      go_wp2_with fail
      refine (C5.out _).mono ?_
      rintro e w' ⟨rfl, rfl⟩
      go_wp2_with fail
      refine (C6.out _).mono ?_
      rintro e w' ⟨rfl, rfl⟩
      go_wp2_with fail
      refine (C7.out _).mono ?_
      rintro e w' ⟨rfl, rfl⟩
      go_wp2_with fail
      refine (C8.out _).mono ?_
      rintro e w' ⟨rfl, rfl⟩
      go_wp2_with fail
      go_ret
      exact ⟨rfl, (H2.out.alloc _).below (by simp) (Nat.le_refl _)⟩
end Go.Proofs.YthggifldefapoaaDoor

/- CodeWords: the walk of the law. -/
import Derived.Test.YthjakngpegdhmaaDoorAwake
namespace Go.Proofs.YthjakngpegdhmaaDoor
open Go.RowKit

theorem find_name : ∀ k, k < 36 → findP (rowsL.getD k zR).w = ((k : Int), true) := by decide
theorem find_none : findP [] = (0, false) := by decide
theorem rowOf_nat {k : Nat} (h : k < 36) : rowOf (k : Int) = rowsL.getD k zR := by unfold rowOf; rw [if_pos (by omega)]; rfl
theorem name_inj {a b : Nat} (ha : a < 36) (hb : b < 36) (h : (rowOf a).w = (rowOf b).w) : a = b := by
  rw [rowOf_nat ha, rowOf_nat hb] at h
  have h1 := find_name a ha
  rw [h, find_name b hb] at h1
  have h2 := congrArg Prod.fst h1
  simp only at h2
  omega
theorem RowsT.lt {w : World} (h : RowsT w) : 1 < w.heap.size := h.elim fun t h => Blk.lt h
set_option maxRecDepth 100000 in
set_option maxHeartbeats 4000000 in
theorem words_walk {K : List Nat} {w : World} {ad : Nat → Addr} (hs : Sents K w.heap.size w ad) (hK1 : 1 ∈ K) (hK4 : 4 ∈ K) (hK12 : 12 ∈ K) (hK13 : 13 ∈ K) (hK14 : 14 ∈ K) (hT : RowsT w) (a0 b0 : Int) :
    Calls Tryd.prog 5 #[.int .i64 a0, .int .i64 b0] w fun e w' => e = .returned (.bool true) ∧ Below w.heap.size w w' := by
  have HA := hide (awake_calls hs hK1 hK4 hK12 hK13 hK14 hT hT.lt)
  have HT := hide hT
  obtain ⟨ua, hua, -⟩ := u64_nat a0
  obtain ⟨ub, hub, -⟩ := u64_nat b0
  have ha36 : ua % 36 < 36 := Nat.mod_lt _ (by omega)
  have hb36 : ub % 36 < 36 := Nat.mod_lt _ (by omega)
  have nz : (36 : Int) ≠ 0 := by omega
  have ea : (ua : Int) % 36 = ((ua % 36 : Nat) : Int) := by omega
  have eb : (ub : Int) % 36 = ((ub % 36 : Nat) : Int) := by omega
  generalize ua % 36 = a at *
  generalize ub % 36 = b at *
  have hfa : findP (rowOf (a : Int)).w = ((a : Int), true) := by rw [rowOf_nat ha36]; exact find_name a ha36
  have hinj := hide (fun h => name_inj ha36 hb36 h)
  have hrng := rowOf_rng (a : Int)
  have h0m : (rowOf (-1)).w = [] := by decide
  have h36 : (rowOf 36).w = [] := by decide
  have H3 := hide (And.intro h0m h36)
  clear hs hT h0m h36 hK1 hK4 hK12 hK13 hK14
  go_enter Tryd.func5, Tryd.ntmps5
  go_wp2_with fail
  refine HA.out.mono ?_
  rintro e w1 ⟨rfl, hf1⟩
  have Hf1 := hide hf1
  clear hf1 HA
  go_wp2_with fail
  refine (name_calls (HT.out.fr0 Hf1.out) (a : Int)).mono ?_
  rintro e w2 ⟨rfl, hf2⟩
  have Hf2 := hide (Hf1.out.trans hf2)
  clear hf2 Hf1
  have HN := hide (fun W (h : Fr [] w W) => name_calls (HT.out.fr0 h) (a : Int))
  have HNb := hide (fun W (h : Fr [] w W) => name_calls (HT.out.fr0 h) (b : Int))
  have HM := hide (fun W (h : Fr [] w W) => moves_calls (HT.out.fr0 h) (a : Int))
  obtain ⟨wa, hwa⟩ : ∃ l, l = (rowOf (a : Int)).w := ⟨_, rfl⟩
  obtain ⟨wb, hwb⟩ : ∃ l, l = (rowOf (b : Int)).w := ⟨_, rfl⟩
  rw [← hwa] at HN hfa ⊢
  rw [← hwb] at HNb
  have hinj2 := hide (show wa = wb → a = b from fun h => hinj.out (by rw [← hwa, ← hwb]; exact h))
  have hsame : Hid (a = b → wa = wb) := hide (fun h => by rw [hwa, hwb, h])
  clear hwa hwb hinj
  generalize rowOf (a : Int) = r at *
  obtain ⟨rw_, ra, rt, rl⟩ := r
  simp only at HM hrng
  go_wp2_with fail
  have q := find_calls (HT.out.fr0 Hf2.out) ⟨wa.toArray⟩
  rw [show ((⟨wa.toArray⟩ : ByteArray).data.toList) = wa from rfl, hfa] at q
  refine q.mono ?_
  rintro e w3 ⟨rfl, hf3⟩
  have Hf3 := hide (Hf2.out.trans hf3)
  clear hf3 Hf2 q
  go_wp2_with fail
  refine (HM.out _ Hf3.out).mono ?_
  rintro e w4 ⟨rfl, hf4⟩
  have Hf4 := hide (Hf3.out.trans hf4)
  clear hf4 Hf3 HM
  go_wp2_with fail
  have q := find_calls (HT.out.fr0 Hf4.out) ⟨#[]⟩
  rw [show ((⟨#[]⟩ : ByteArray).data.toList) = [] from rfl, find_none] at q
  refine q.mono ?_
  rintro e w5 ⟨rfl, hf5⟩
  have Hf5 := hide (Hf4.out.trans hf5)
  clear hf5 Hf4 q
  go_wp2_with fail
  refine (HN.out _ Hf5.out).mono ?_
  rintro e w6 ⟨rfl, hf6⟩
  have Hf6 := hide (Hf5.out.trans hf6)
  clear hf6 Hf5
  go_wp2_with fail
  refine (HNb.out _ Hf6.out).mono ?_
  rintro e w7 ⟨rfl, hf7⟩
  have Hf7 := hide (Hf6.out.trans hf7)
  clear hf7 Hf6
  have HM1 := hide (fun W (h : Fr [] w W) => name_calls (HT.out.fr0 h) (-1))
  rw [H3.out.1] at HM1
  have HM36 := hide (fun W (h : Fr [] w W) => name_calls (HT.out.fr0 h) 36)
  rw [H3.out.2] at HM36
  by_cases hab : a = b
  · have hw := hsame.out hab
    subst hab
    subst hw
    go_wp2_with fail
    refine (HM1.out _ Hf7.out).mono ?_
    rintro e w8 ⟨rfl, hf8⟩
    have Hf8 := hide (Hf7.out.trans hf8)
    clear hf8
    go_wp2_with fail
    refine (HM36.out _ Hf8.out).mono ?_
    rintro e w9 ⟨rfl, hf9⟩
    have Hf9 := hide (Hf8.out.trans hf9)
    clear hf9
    go_wp2_with fail
    go_ret
    exact ⟨rfl, Hf9.out.below (by simp) (Nat.le_refl _)⟩
  · have hw : (wa == wb) = false := by simpa using fun h => hab (hinj2.out h)
    have hi : ((a : Int) == (b : Int)) = false := by simp; omega
    have Hab := hide hab
    clear hab
    go_wp2_with fail
    refine (HM1.out _ Hf7.out).mono ?_
    rintro e w8 ⟨rfl, hf8⟩
    have Hf8 := hide (Hf7.out.trans hf8)
    clear hf8
    go_wp2_with fail
    refine (HM36.out _ Hf8.out).mono ?_
    rintro e w9 ⟨rfl, hf9⟩
    have Hf9 := hide (Hf8.out.trans hf9)
    clear hf9
    go_wp2_with fail
    go_ret
    exact ⟨rfl, Hf9.out.below (by simp) (Nat.le_refl _)⟩
end Go.Proofs.YthjakngpegdhmaaDoor

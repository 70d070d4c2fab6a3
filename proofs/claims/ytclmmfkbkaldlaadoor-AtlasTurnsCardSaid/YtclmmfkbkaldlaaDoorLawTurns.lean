/- AtlasTurns: the walk of the law. -/
import Derived.Test.YtclmmfkbkaldlaaDoorSteps
namespace Go.Proofs.YtclmmfkbkaldlaaDoor
open Go.RowKit

set_option maxRecDepth 100000 in
set_option maxHeartbeats 4000000 in
theorem turns_walk {K : List Nat} {w : World} {ad : Nat → Addr} (hs : Sents K w.heap.size w ad) (h1 : 1 ∈ K) (h7 : 7 ∈ K) (hT : Tab w) (m0 : Nat) (hm0 : m0 < 4294967296) (c0 d0 : Int) :
    Calls Tryd.prog 4 #[.int .u32 m0, .int .i64 c0, .int .i64 d0] w fun e w' => e = .returned (.bool true) ∧ Below w.heap.size w w' := by
  have C := hide (Cx.start hs)
  have HT := hide hT
  have hand : bits BinOp.and IntKind.u32 (m0 : Int) 65535 = ((m0 &&& 65535 : Nat) : Int) := u32_and_nat m0 65535 hm0 (by omega)
  have hml : m0 &&& 65535 < 2 ^ 16 := by rw [and_ffff]; exact Nat.mod_lt _ (by omega)
  obtain ⟨uc, huc, -⟩ := u64_nat c0
  obtain ⟨ud, hud, -⟩ := u64_nat d0
  have hc16 : uc % 16 < 16 := Nat.mod_lt _ (by omega)
  have hd16 : ud % 16 < 16 := Nat.mod_lt _ (by omega)
  have nz : (16 : Int) ≠ 0 := by omega
  have ec : (uc : Int) % 16 = ((uc % 16 : Nat) : Int) := by omega
  have ed : (ud : Int) % 16 = ((ud % 16 : Nat) : Int) := by omega
  generalize m0 &&& 65535 = m at *
  generalize uc % 16 = c at *
  generalize ud % 16 = d at *
  have hm32 : m < 4294967296 := by omega
  have Hm := hide (And.intro hml hm32)
  clear hs hT hm0 hml hm32
  go_enter Tryd.func4, Tryd.ntmps4
  go_wp2_with fail
  refine (awake_calls C.out.sents h1 h7 HT.out).mono ?_
  rintro e w1 ⟨rfl, hf⟩
  have C1 := hide (C.out.fr0 hf)
  clear hf C
  go_wp2_with fail
  refine (new_ok C1.out.leW 16 (by omega)).mono ?_
  rintro e w2 ⟨g, S1, rfl, hr, hf, hn⟩
  have A1 : Hid (AI K w ad g 16 [0] S1 [] w2) := hide ⟨hr, by simpa using C1.out.obj hf hn fun b hb => (hr.lt b hb).1, HT.out⟩
  clear hr hf hn C1 HT
  go_wp2_with fail
  obtain ⟨F, hF⟩ : ∃ F, F = addm (addm (addm (addm (addm (addm (addm (addm [0] m) (wth m c)) (wth (wth m c) d)) (wth m d)) (wth (wth m c) d)) (wth m c)) (wout m c)) (wout m c) := ⟨_, rfl⟩
  have J8 : In (addm (addm (addm (addm (addm (addm (addm (addm [0] m) (wth m c)) (wth (wth m c) d)) (wth m d)) (wth (wth m c) d)) (wth m c)) (wout m c)) (wout m c)) F := by rw [hF]; exact In.refl _
  clear hF
  have J7 := J8.of_addm
  have J6 := J7.of_addm
  have J5 := J6.of_addm
  have J4 := J5.of_addm
  have J3 := J4.of_addm
  have J2 := J3.of_addm
  have J1 := J2.of_addm
  have J := hide (And.intro J1 (And.intro J2 (And.intro J3 (And.intro J4 (And.intro J5 (And.intro J6 (And.intro J7 J8)))))))
  have ix : (addm [0] m).length ≤ 1000000 := by have := addm_len [0] m; simp at this; omega
  have l2 := addm_len (addm [0] m) (wth m c)
  have l3 := addm_len (addm (addm [0] m) (wth m c)) (wth (wth m c) d)
  have l4 := addm_len (addm (addm (addm [0] m) (wth m c)) (wth (wth m c) d)) (wth m d)
  have l5 := addm_len (addm (addm (addm (addm [0] m) (wth m c)) (wth (wth m c) d)) (wth m d)) (wth (wth m c) d)
  have l6 := addm_len (addm (addm (addm (addm (addm [0] m) (wth m c)) (wth (wth m c) d)) (wth m d)) (wth (wth m c) d)) (wth m c)
  have l7 := addm_len (addm (addm (addm (addm (addm (addm [0] m) (wth m c)) (wth (wth m c) d)) (wth m d)) (wth (wth m c) d)) (wth m c)) (wout m c)
  have l8 := addm_len (addm (addm (addm (addm (addm (addm (addm [0] m) (wth m c)) (wth (wth m c) d)) (wth m d)) (wth (wth m c) d)) (wth m c)) (wout m c)) (wout m c)
  have ix : (addm [0] m).length ≤ 2 := by have := addm_len [0] m; simp at this; omega
  have HL := hide (And.intro ix (And.intro l2 (And.intro l3 (And.intro l4 (And.intro l5 (And.intro l6 (And.intro l7 l8)))))))
  clear J1 J2 J3 J4 J5 J6 J7 J8 ix l2 l3 l4 l5 l6 l7 l8
  have q := at_step A1.out J.out.1 Hm.out.1 (by simp)
  refine q.mono ?_
  rintro e w3 ⟨rfl, S3, hA⟩
  have A2 := hide hA
  clear hA q A1
  go_wp2_with fail
  have q := with_step A2.out (x := m) (c := c) J.out.2.1 (addm_mem _ _) hc16 (by have := HL.out; omega)
  refine q.mono ?_
  rintro e w4 ⟨rfl, S4, hA⟩
  have A3 := hide hA
  clear hA q A2
  go_wp2_with fail
  have q := with_step A3.out (x := wth m c) (c := d) J.out.2.2.1 (addm_mem _ _) hd16 (by have := HL.out; omega)
  refine q.mono ?_
  rintro e w5 ⟨rfl, S5, hA⟩
  have A4 := hide hA
  clear hA q A3
  go_wp2_with fail
  have q := with_step A4.out (x := m) (c := d) J.out.2.2.2.1 (mem_addm (mem_addm (addm_mem _ _) _) _) hd16 (by have := HL.out; omega)
  refine q.mono ?_
  rintro e w6 ⟨rfl, S6, hA⟩
  have A5 := hide hA
  clear hA q A4
  go_wp2_with fail
  have q := with_step (F := F) A5.out (x := wth m d) (c := c) (by rw [wth_comm m d c]; exact J.out.2.2.2.2.1) (addm_mem _ _) hc16 (by have := HL.out; omega)
  rw [wth_comm m d c] at q
  refine q.mono ?_
  rintro e w7 ⟨rfl, S7, hA⟩
  have A6 := hide hA
  clear hA q A5
  go_wp2_with fail
  have q := with_step (F := F) A6.out (x := wth m c) (c := c) (by rw [wth_idem m c]; exact J.out.2.2.2.2.2.1) (mem_addm (mem_addm (mem_addm (addm_mem _ _) _) _) _) hc16 (by have := HL.out; omega)
  rw [wth_idem m c] at q
  refine q.mono ?_
  rintro e w8 ⟨rfl, S8, hA⟩
  have A7 := hide hA
  clear hA q A6
  go_wp2_with fail
  have q := without_step (F := F) A7.out (x := wth m c) (c := c) (by rw [wout_wth Hm.out.2 (by omega)]; exact J.out.2.2.2.2.2.2.1) (addm_mem _ _) hc16 (by have := HL.out; omega)
  rw [wout_wth Hm.out.2 (by omega)] at q
  refine q.mono ?_
  rintro e w9 ⟨rfl, S9, hA⟩
  have A8 := hide hA
  clear hA q A7
  go_wp2_with fail
  have q := without_step A8.out (x := m) (c := c) J.out.2.2.2.2.2.2.2 (mem_addm (mem_addm (mem_addm (mem_addm (mem_addm (mem_addm (addm_mem _ _) _) _) _) _) _) _) hc16 (by have := HL.out; omega)
  refine q.mono ?_
  rintro e wa ⟨rfl, Sa, hA⟩
  have A9 := hide hA
  clear hA q A8
  go_wp2_with fail
  have q := mask_step A9.out (x := wth m c) J.out.2.2.2.2.2.2.2 (mem_addm (mem_addm (addm_mem _ _) _) _) (by have := HL.out; omega)
  refine q.mono ?_
  rintro e w' ⟨rfl, rfl⟩
  have hor : bits BinOp.or IntKind.u32 (m : Int) (2 ^ c % 4294967296) = ((wth m c : Nat) : Int) := by
    have h2 := pow_lt32 (c := c) (by omega)
    have e : ((2 : Int) ^ c % 4294967296) = ((2 ^ c : Nat) : Int) := by
      have e1 : ((2 : Int) ^ c) = ((2 ^ c : Nat) : Int) := by simp
      rw [e1]; exact Int.emod_eq_of_lt (Int.natCast_nonneg _) (Int.ofNat_lt.2 h2)
    rw [e]
    exact u32_or_nat m (2 ^ c) Hm.out.2 h2
  have eb : ((m : Int) / 2 ^ c).tmod 2 = ((m / 2 ^ c % 2 : Nat) : Int) := by
    have e : ((m : Int) / 2 ^ c) = ((m / 2 ^ c : Nat) : Int) := by simp
    rw [e]; rfl
  have tb := Nat.testBit_eq_decide_div_mod_eq (x := m) (i := c)
  have Hor := hide hor
  clear hor
  by_cases hb : m / 2 ^ c % 2 = 1
  · have h1b : (((m : Int) / 2 ^ c).tmod 2 == 1) = true := by rw [eb, hb]; rfl
    have h0b : (((m : Int) / 2 ^ c).tmod 2 == 0) = false := by rw [eb, hb]; rfl
    have ex : wth m c = m := wth_of (by rw [tb, hb]; rfl)
    rw [ex]
    have hor := Hor.out
    rw [ex] at hor
    clear ex eb tb hb
    go_wp2_with fail
    go_ret
    exact ⟨rfl, A9.out.below⟩
  · have hb0 : m / 2 ^ c % 2 = 0 := by omega
    have h1b : (((m : Int) / 2 ^ c).tmod 2 == 1) = false := by rw [eb, hb0]; rfl
    have h0b : (((m : Int) / 2 ^ c).tmod 2 == 0) = true := by rw [eb, hb0]; rfl
    have ex : wout m c = m := wout_of Hm.out.2 (by omega) (by rw [tb, hb0]; rfl)
    rw [ex]
    have hor := Hor.out
    clear ex eb tb hb hb0
    go_wp2_with fail
    go_ret
    exact ⟨rfl, A9.out.below⟩
end Go.Proofs.YtclmmfkbkaldlaaDoor

/- The reference of chapter 08 by contracts: Turn, Match. -/
import Derived.Test.YtclmmfkbkaldlaaDoorRefA
namespace Go.Proofs.YtclmmfkbkaldlaaDoor
open Go.RowKit

/-! ### Turn -/
theorem rturn_none {B : Nat} {w : World} {g cn : Nat} {ms S : List Nat} (h : RefA B w g cn ms S) (n c : Int) (more : Bool) (hn : n < 0 ∨ (ms.length : Int) ≤ n) (hl : ms.length ≤ 1000000) :
    Calls Tryd.prog 22 #[.pointer (some ⟨g, 0, none⟩), .int .i64 n, .int .i64 c, .bool more] w fun e w' => e = .returned (.tuple #[.int .i64 0, .int .i64 7]) ∧ w = w' := by
  obtain ⟨gL, cp, hg, hr, hc, hs, hBg, hpos, -⟩ := h.form
  have g1 := hg.at_ 1 (v := .slice (some ⟨gL, 0, none⟩) ms.length cp) rfl
  have lg := hg.lt
  clear h hg hr hs
  by_cases h1 : n < 0
  · go_enter Tryd.func22, Tryd.ntmps22
    go_wp2_with fail
    go_ret2
    exact ⟨rfl, rfl⟩
  · have h2 : (ms.length : Int) ≤ n := by omega
    go_enter Tryd.func22, Tryd.ntmps22
    go_wp2_with fail
    go_ret2
    exact ⟨rfl, rfl⟩
theorem rturn_arg {B : Nat} {w : World} {g cn : Nat} {ms S : List Nat} (h : RefA B w g cn ms S) {n m : Nat} (hm : ms[n]? = some m) (c : Int) (more : Bool) (hcc : c < 0 ∨ (cn : Int) ≤ c) (hl : ms.length ≤ 1000000) :
    Calls Tryd.prog 22 #[.pointer (some ⟨g, 0, none⟩), .int .i64 n, .int .i64 c, .bool more] w fun e w' => e = .returned (.tuple #[.int .i64 0, .int .i64 1]) ∧ w = w' := by
  obtain ⟨gL, cp, hg, hr, hc, hs, hBg, hpos, -⟩ := h.form
  have g0 := hg.at_ 0 (v := .int .i64 cn) rfl
  have g1 := hg.at_ 1 (v := .slice (some ⟨gL, 0, none⟩) ms.length cp) rfl
  have lg := hg.lt
  have hn := (List.getElem?_eq_some_iff.1 hm).1
  clear h hg hr hs hm
  by_cases h1 : c < 0
  · go_enter Tryd.func22, Tryd.ntmps22
    go_wp2_with fail
    go_ret2
    exact ⟨rfl, rfl⟩
  · have h2 : (cn : Int) ≤ c := by omega
    go_enter Tryd.func22, Tryd.ntmps22
    go_wp2_with fail
    go_ret2
    exact ⟨rfl, rfl⟩
theorem two_pow_cast {c : Nat} (h : c < 32) : ((2 : Int) ^ c % 4294967296) = ((2 ^ c : Nat) : Int) := by
  have h2 := pow_lt32 h
  have e1 : ((2 : Int) ^ c) = ((2 ^ c : Nat) : Int) := by simp
  rw [e1]; exact Int.emod_eq_of_lt (Int.natCast_nonneg _) (Int.ofNat_lt.2 h2)
theorem wth_wout (m c : Nat) : wth (wout m c) c = wth m c ∨ 4294967296 ≤ m ∨ 32 ≤ c := by
  by_cases hm : m < 4294967296
  · by_cases hc : c < 32
    · left
      apply Nat.eq_of_testBit_eq
      intro i
      rw [wth_bit, wth_bit, wout_bit _ _ _ hm hc]
      by_cases e : c = i <;> simp [e]
    · exact .inr (.inr (by omega))
  · exact .inr (.inl (by omega))
set_option maxRecDepth 100000 in
set_option maxHeartbeats 1000000 in
theorem rturn_ok {B : Nat} {w : World} {g cn : Nat} {ms S : List Nat} (h : RefA B w g cn ms S) (hB : B ≤ w.heap.size) {n m : Nat} (hm : ms[n]? = some m) {c : Nat} (hc : c < cn) (hl : ms.length ≤ 1000000) (more : Bool) :
    Calls Tryd.prog 22 #[.pointer (some ⟨g, 0, none⟩), .int .i64 n, .int .i64 c, .bool more] w fun e w' => e = .returned (.tuple #[.int .i64 ((addm ms (tgt more m c)).idxOf (tgt more m c) : Nat), .int .i64 0]) ∧ ∃ S', RefA B w' g cn (addm ms (tgt more m c)) S' ∧ Stp S S' w w' := by
  obtain ⟨gL, cp, hg, hr, hc16, hs, hBg, hpos, rfl⟩ := h.form
  have hmlt := hs m (List.mem_of_getElem? hm)
  have hm32 : m < 4294967296 := Nat.lt_of_lt_of_le hmlt (pow_le32 (by omega))
  have htl : tgt more m c < 2 ^ cn := by
    cases more
    · exact Nat.lt_of_le_of_lt (wout_le _ _) hmlt
    · exact wth_lt hmlt hc
  have hw32 : wout m c < 4294967296 := Nat.lt_of_le_of_lt (wout_le _ _) hm32
  have e1 : bits .andNot .u32 (m : Int) (2 ^ c % 4294967296) = ((wout m c : Nat) : Int) := by
    rw [two_pow_cast (by omega)]; exact u32_andNot_nat m (2 ^ c) hm32 (pow_lt32 (by omega))
  have e2 : bits .or .u32 ((wout m c : Nat) : Int) (2 ^ c % 4294967296) = ((wth m c : Nat) : Int) := by
    rw [two_pow_cast (by omega), u32_or_nat _ (2 ^ c) hw32 (pow_lt32 (by omega))]
    rcases wth_wout m c with h | h | h
    · exact congrArg (fun x : Nat => (x : Int)) h
    · omega
    · omega
  have HA := hide (fun (w1 : World) (hf : Fr [] w w1) => rat_ok (w := w1) (h.fr0 hf) (Nat.le_trans hB hf.size) htl hl)
  have g0 := hg.at_ 0 (v := .int .i64 cn) rfl
  have g1 := hg.at_ 1 (v := .slice (some ⟨gL, 0, none⟩) ms.length cp) rfl
  have lg := hg.lt
  have k0 := row_cell hr (i := n) (u := .int .u32 m) (by simp [msks, hm])
  have hn := (List.getElem?_eq_some_iff.1 hm).1
  have n0 : (0 : Int) ≤ (n : Int) := by omega
  have n1 : (n : Int) < (ms.length : Int) := by omega
  have c0 : (0 : Int) ≤ (c : Int) := by omega
  have c1 : (c : Int) < (cn : Int) := by omega
  clear h hg hr hs hm hmlt hm32 htl hw32 hB
  cases more
  · simp only [tgt, Bool.false_eq_true, if_false] at HA ⊢
    go_enter Tryd.func22, Tryd.ntmps22
    go_wp2_with fail
    go_quiet (fail)
    go_wp2_with fail
    refine (HA.out _ ((Fr.refl [] w).drewN _)).mono ?_
    rintro e w' ⟨rfl, S', hr, hst⟩
    have H1 := hide (And.intro hr hst)
    clear hr hst
    go_wp2_with fail
    go_ret2
    exact ⟨rfl, S', H1.out.1, ((Fr.refl _ w).drewN _).trans H1.out.2.1, H1.out.2.2⟩
  · simp only [tgt, if_true] at HA ⊢
    go_enter Tryd.func22, Tryd.ntmps22
    go_wp2_with fail
    go_quiet (fail)
    go_wp2_with fail
    refine (HA.out _ ((Fr.refl [] w).drewN _)).mono ?_
    rintro e w' ⟨rfl, S', hr, hst⟩
    have H1 := hide (And.intro hr hst)
    clear hr hst
    go_wp2_with fail
    go_ret2
    exact ⟨rfl, S', H1.out.1, ((Fr.refl _ w).drewN _).trans H1.out.2.1, H1.out.2.2⟩
/-! ### Match -/
theorem hits_eq {a b m : Nat} (ha : a < 4294967296) (hm : m < 4294967296) : hits a b m = (decide (m &&& a = a) && decide (m &&& b = 0)) := by
  unfold hits
  congr 1
  apply decide_eq_decide.2
  constructor
  · intro h
    apply Nat.eq_of_testBit_eq
    intro i
    have h1 := congrArg (fun x => x.testBit i) h
    simp only [Nat.testBit_and, full_bit _ _ hm, Nat.zero_testBit] at h1
    rw [Nat.testBit_and]
    by_cases hi : i < 32
    · simp [hi] at h1
      cases ha : a.testBit i
      · simp
      · simp [h1 ha]
    · rw [bit_ge ha (by omega)]; simp
  · intro h
    apply Nat.eq_of_testBit_eq
    intro i
    have h1 := congrArg (fun x => x.testBit i) h
    simp only [Nat.testBit_and] at h1
    rw [Nat.testBit_and, full_bit _ _ hm, Nat.zero_testBit]
    cases ha : a.testBit i
    · rfl
    · rw [ha] at h1
      simp at h1
      simp [h1]
set_option maxRecDepth 100000 in
set_option maxHeartbeats 2000000 in
theorem rmatch_ok {B : Nat} {w : World} {g cn : Nat} {ms S : List Nat} (h : RefA B w g cn ms S) (a b : Nat) (ha : a < 4294967296) (hb : b < 4294967296) (hl : ms.length ≤ 1000000) :
    Calls Tryd.prog 25 #[.pointer (some ⟨g, 0, none⟩), .int .u32 a, .int .u32 b] w fun e w' => ∃ v, e = .returned v ∧ w'.ownsRow w.heap.size 3 1 v (matchN a b ms ms.length).length (nats (matchN a b ms ms.length)) ∧ Fr [] w w' := by
  obtain ⟨gL, cp, hg, hr, hc16, hs, hBg, hpos, -⟩ := h.form
  have H := hide (And.intro hg (And.intro hr (And.intro hs (And.intro ha (And.intro hb hc16)))))
  obtain ⟨i0, hi0, hz0, hz1, hz2⟩ := info_parts infoInt
  have hrow0 : Hid ((w.alloc (.cells #[] 3)).ownsRow w.heap.size 3 1 (.slice (some ⟨w.heap.size, 0, none⟩) 0 0) 0 (nats (matchN a b ms 0))) := hide (row_mk (Blk.new w _ _) (Nat.le_refl _) (Nat.le_refl _) (by simp [maxLen]) rfl rfl)
  clear h hg hr hs ha hb
  go_enter Tryd.func25, Tryd.ntmps25
  go_wp2_with fail
  go_loopw [7, 8] (fun s7 s8 wr => ∃ k : Nat, k ≤ ms.length ∧ s8 = .int .i64 k ∧ wr.ownsRow w.heap.size 3 1 s7 (matchN a b ms k).length (nats (matchN a b ms k)) ∧ Fr [] w wr) (fun _ s8 _ => ms.length - (intOf s8).toNat)
  case atStart => exact ⟨0, by omega, rfl, hrow0.out, (Fr.refl _ _).alloc _⟩
  case round =>
    clear hrow0
    obtain ⟨k, hk, rfl, hrk, hf⟩ := hrel
    have g1 := (H.out.1.fr0 hf).at_ 1 (v := .slice (some ⟨gL, 0, none⟩) ms.length cp) rfl
    have lg := (H.out.1.fr0 hf).lt
    by_cases hk1 : k < ms.length
    · obtain ⟨m, hm⟩ : ∃ m, ms[k]? = some m := ⟨_, List.getElem?_eq_getElem hk1⟩
      have k0 := row_cell (row_fr H.out.2.1 hf (by simp)) (i := k) (u := .int .u32 m) (by simp [msks, hm])
      have n0 : (0 : Int) ≤ (k : Int) := by omega
      have n1 : (k : Int) < (ms.length : Int) := by omega
      have hm32 : m < 4294967296 := Nat.lt_of_lt_of_le (H.out.2.2.1 m (List.mem_of_getElem? hm)) (pow_le32 (by have := H.out.2.2.2.2.2; omega))
      have e1 : bits .and .u32 (m : Int) (a : Int) = ((m &&& a : Nat) : Int) := u32_and_nat m a hm32 H.out.2.2.2.1
      have e2 : bits .and .u32 (m : Int) (b : Int) = ((m &&& b : Nat) : Int) := u32_and_nat m b hm32 H.out.2.2.2.2.1
      have hh := hits_eq (a := a) (b := b) (m := m) H.out.2.2.2.1 hm32
      have hsn := match_snoc (a := a) (b := b) hm
      have hle := match_len a b ms k
      have hsz := hf.size
      have Hr := hide (And.intro hrk (And.intro hf hsn))
      clear hrk hf hsn hm hm32
      by_cases q1 : m &&& a = a
      · rw [q1] at e1
        by_cases q2 : m &&& b = 0
        · rw [q2] at e2
          have Hq := hide (show hits a b m = true by rw [hh, q1, q2]; simp)
          clear hh q1 q2
          go_wp2_with (at_builtin; refine wpList_append_lies _ rfl _ _ _ rfl w.heap.size 3 i0 _ 1 8 Tryd.underlying29 hi0 hz0 hz1 hz2 rfl (by omega) (u7) ((matchN a b ms k).length) (nats (matchN a b ms k)) rfl ((Hr.out.1.alloc _)) ⟨wr.heap.size, 0, none⟩ 1 1 [.int .i64 k] rfl rfl (World.news_of_block (cs := #[.int .i64 k]) (t := 3) (fr := (0, 0)) (Blk.new_at _ _ _ _ (by simp))) (by simp [Value.oneCell']) (by omega) (by unfold maxLen; omega) (by omega) (by simp; omega) (wr.heap.size + 1) (by simp) ?_; intro gg cap w3 hown3 hgrow hat hlt3)
          go_roundw
          case rel =>
            obtain ⟨hr, hf, hsn⟩ := Hr.out
            refine ⟨k + 1, by omega, by go_num, ?_, (hf.alloc _).grown hgrow (fun b hb => .inr (row_lt hr hb).2)⟩
            rw [hsn, if_pos Hq.out, List.length_append, List.length_singleton]
            have e : nats (matchN a b ms k ++ [k]) = nats (matchN a b ms k) ++ [.int .i64 k] := by simp [nats, ints]
            rw [e]
            exact hown3
          case measure => simp [intOf]; omega
        · have q2b : (((m &&& b : Nat) : Int) == 0) = false := by simp only [beq_eq_false_iff_ne, ne_eq]; omega
          have Hq := hide (show hits a b m = false by rw [hh]; simp [q2])
          clear hh q1 q2
          go_wp2_with fail
          go_roundw
          case rel =>
            obtain ⟨hr, hf, hsn⟩ := Hr.out
            refine ⟨k + 1, by omega, by go_num, ?_, hf⟩
            rw [hsn, Hq.out]
            simpa using hr
          case measure => simp [intOf]; omega
      · have q1b : (((m &&& a : Nat) : Int) == (a : Int)) = false := by simp only [beq_eq_false_iff_ne, ne_eq]; omega
        have Hq := hide (show hits a b m = false by rw [hh]; simp [q1])
        clear hh q1
        go_wp2_with fail
        go_roundw
        case rel =>
          obtain ⟨hr, hf, hsn⟩ := Hr.out
          refine ⟨k + 1, by omega, by go_num, ?_, hf⟩
          rw [hsn, Hq.out]
          simpa using hr
        case measure => simp [intOf]; omega
    · have hkn : k = ms.length := by omega
      subst hkn
      have Hr := hide (And.intro hrk hf)
      clear hrk hf
      go_wp2_with fail
      go_ret
      exact ⟨_, rfl, Hr.out.1, Hr.out.2⟩
end Go.Proofs.YtclmmfkbkaldlaaDoor

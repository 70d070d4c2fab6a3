/- AtlasMatches: the walk of the law. -/
import Derived.Test.YtclmmfkbkaldlaaDoorLawAOnce
namespace Go.Proofs.YtclmmfkbkaldlaaDoor
open Go.RowKit

theorem match_mono {a b : Nat} {ms : List Nat} : ∀ {k k' : Nat}, k ≤ k' → matchN a b ms k' = matchN a b ms k ++ (List.range' k (k' - k)).filter fun i => hits a b (ms.getD i 0) := by
  intro k k' h
  unfold matchN
  rw [List.range_eq_range', List.range_eq_range', ← List.filter_append, show List.range' 0 k' = List.range' 0 k ++ List.range' k (k' - k) from ?_]
  have := (List.range'_append_1 (s := 0) (m := k) (n := k' - k)).symm
  rw [Nat.zero_add, show k + (k' - k) = k' from by omega] at this
  exact this
theorem match_at {a b : Nat} {ms : List Nat} {k m N : Nat} (h : ms[k]? = some m) (hN : k < N) (hh : hits a b m = true) : (matchN a b ms N)[(matchN a b ms k).length]? = some k := by
  rw [match_mono (k := k + 1) (k' := N) (by omega), match_snoc h, if_pos hh, List.append_assoc, List.getElem?_append_right (Nat.le_refl _), Nat.sub_self]
  rfl
theorem match_all {ms : List Nat} : matchN 0 0 ms ms.length = List.range ms.length := by
  unfold matchN
  rw [List.filter_eq_self]
  intro i _
  simp [hits]
theorem mats_len {a b : Nat} {ms : List Nat} {k N : Nat} (h : k ≤ N) : (matchN a b ms k).length ≤ (matchN a b ms N).length := by
  rw [match_mono h, List.length_append]; omega

set_option maxRecDepth 100000 in
set_option maxHeartbeats 4000000 in
theorem amatches_walk {K : List Nat} {w : World} {ad : Nat → Addr} (hs : Sents K w.heap.size w ad) (h1 : 1 ∈ K) (h7 : 7 ∈ K) (hT : Tab w) (A : Option Addr) (n cap : Nat) (l : List Nat) (hl : l.length = n) (hn : n ≤ maxLen) (hlt : ∀ m ∈ l, m < 4294967296)
    (hr : Reads w w.heap.size 1 A n (l.flatMap encM)) (a b : Nat) (ha : a < 4294967296) (hb : b < 4294967296) :
    Calls Tryd.prog 6 #[.slice A n cap, .int .u32 a, .int .u32 b] w fun e w' => e = .returned (.bool true) ∧ Below w.heap.size w w' := by
  unfold maxLen at hn
  have C := hide (Cx.start hs)
  have HT := hide hT
  have HR := hide (And.intro hr (And.intro hl (And.intro hlt (And.intro ha hb))))
  clear hs hT hr hl hlt ha hb
  go_enter Tryd.func6, Tryd.ntmps6
  go_wp2_with fail
  refine (awake_calls C.out.sents h1 h7 HT.out).mono ?_
  rintro e w1 ⟨rfl, hf⟩
  have C1 := hide (C.out.fr0 hf)
  clear hf C
  go_wp2_with fail
  refine (new_ok C1.out.leW 16 (by omega)).mono ?_
  rintro e w2 ⟨g, S1, rfl, hr, hf, hn⟩
  have A1 : Hid (AI K w ad g 16 [0] S1 [] w2) := hide ⟨hr, by simpa using C1.out.obj hf hn fun b hb => (hr.lt b hb).1, HT.out⟩
  clear hr hf hn C1 HT
  by_cases hn60 : 60 < n
  · go_wp2_with fail
    go_ret
    exact ⟨rfl, A1.out.below⟩
  obtain ⟨q, hq⟩ : ∃ q, q = l.map low := ⟨_, rfl⟩
  have Hq := hide hq
  clear hq
  go_wp2_with fail
  go_loopw [9] (fun s9 wr => ∃ (i : Nat) (S : List Nat), i ≤ n ∧ s9 = .int .i64 i ∧ AI K w ad g 16 (adds [0] (q.take i)) S [] wr) (fun s9 _ => n - (intOf s9).toNat)
  case atStart => exact ⟨0, S1, by omega, rfl, A1.out⟩
  case round =>
    clear A1
    obtain ⟨i, S, hi, rfl, hI⟩ := hrel
    have HI := hide hI
    clear hI
    have hlen : (adds [0] (q.take i)).length ≤ i + 1 := by
      have h1 := adds_len [0] (q.take i)
      have h2 := List.length_take_le i q
      simp at h1
      omega
    by_cases hi1 : i < n
    · obtain ⟨x, hx⟩ : ∃ x, l[i]? = some x := ⟨l[i]'(by have := HR.out.2.1; omega), by simp⟩
      obtain ⟨bA, oA, rfl, hbA, hcA⟩ := HR.out.1.at_ encM_len hx HR.out.2.1
      have hx32 := HR.out.2.2.1 x (List.mem_of_getElem? hx)
      have a0 := (HI.out.below.cell (p := ⟨bA, oA + (i * 1 + 0), none⟩) hbA).trans (hcA 0 (.int .u32 x) rfl)
      rw [Nat.mul_one, Nat.add_zero] at a0
      have n0 : (0 : Int) ≤ (i : Int) := by omega
      have n1 : (i : Int) < (n : Int) := by omega
      have hand := low_bits hx32
      have hqi : q[i]? = some (low x) := by rw [Hq.out]; exact low_get hx
      have HQ := hide (at_step HI.out (m := low x) (In.refl _) (low_lt x) (by omega))
      have Hqi := hide (adds_snoc [0] hqi)
      clear hx hx32 hcA hqi hlen hbA
      go_wp2_with fail
      refine HQ.out.mono ?_
      rintro e w4 ⟨rfl, S2, hA, -⟩
      rw [← Hqi.out] at hA
      have Hn := hide hA
      clear hA HQ
      go_wp2_with fail
      go_roundw
      case rel => exact ⟨i + 1, S2, by omega, by go_num, Hn.out⟩
      case measure => simp [intOf]; omega
    · generalize hms : adds [0] (q.take i) = ms at *
      clear hms
      have hin : i = n := by omega
      subst hin
      clear hi1 hi
      go_wp2_with fail
      refine (match_ok HI.out.atl a b HR.out.2.2.2.1 HR.out.2.2.2.2 (by omega)).mono ?_
      rintro e w3 ⟨v, rfl, hrow, hf⟩
      have H3 := hide (And.intro (HI.out.fr0 hf) hrow)
      clear hf hrow
      obtain ⟨AM, cM, rfl⟩ : ∃ A c, v = .slice A (matchN a b ms ms.length).length c := by
        rcases row_form H3.out.2 with ⟨rfl, h0, _⟩ | ⟨gp, cp, rfl, _⟩
        · rw [h0]; exact ⟨_, _, rfl⟩
        · exact ⟨_, _, rfl⟩
      go_wp2_with fail
      go_loopw [11, 12] (fun s11 s12 wr2 => ∃ k : Nat, k ≤ ms.length ∧ s12 = .int .i64 k ∧ s11 = .int .i64 ((matchN a b ms k).length : Nat) ∧ AI K w ad g 16 ms S [] wr2 ∧ wr2.ownsRow wr.heap.size 3 1 (.slice AM (matchN a b ms ms.length).length cM) (matchN a b ms ms.length).length (nats (matchN a b ms ms.length))) (fun _ s12 _ => ms.length - (intOf s12).toNat)
      case atStart => exact ⟨0, by omega, rfl, rfl, H3.out.1, H3.out.2⟩
      case round =>
        clear HI H3
        obtain ⟨k, hk, rfl, rfl, hI, hrow⟩ := hrel
        have HI := hide (And.intro hI hrow)
        clear hI hrow
        have hmk := match_len a b ms k
        by_cases hk1 : k < ms.length
        · go_wp2_with fail
          refine (len_calls HI.out.1.atl).mono ?_
          rintro e w' ⟨rfl, rfl⟩
          obtain ⟨m, hm⟩ : ∃ m, ms[k]? = some m := ⟨_, List.getElem?_eq_getElem hk1⟩
          have hm16 := HI.out.1.atl.small m (List.mem_of_getElem? hm)
          have HM := hide (mask_ok HI.out.1.atl hm (by omega))
          have hm32 : m < 4294967296 := by omega
          have e1 : bits .andNot .u32 (a : Int) (m : Int) = ((a &&& (4294967295 - m) : Nat) : Int) := u32_andNot_nat a m HR.out.2.2.2.1 hm32
          have e2 : bits .and .u32 (m : Int) (b : Int) = ((m &&& b : Nat) : Int) := u32_and_nat m b hm32 HR.out.2.2.2.2
          have hsn := match_snoc (a := a) (b := b) hm
          have Hs := hide (And.intro hsn hm)
          clear hm hm16 hm32 hsn
          go_wp2_with fail
          refine HM.out.mono ?_
          rintro e w' ⟨rfl, rfl⟩
          by_cases q1 : a &&& (4294967295 - m) = 0
          · rw [q1] at e1
            by_cases q2 : m &&& b = 0
            · rw [q2] at e2
              have hh : hits a b m = true := by simp [hits, q1, q2]
              have hat := match_at (N := ms.length) Hs.out.2 hk1 hh
              have hlt2 := (List.getElem?_eq_some_iff.1 hat).1
              obtain ⟨gM, rfl⟩ : ∃ gp, AM = some ⟨gp, 0, none⟩ := by
                rcases row_form HI.out.2 with ⟨_, h0, _⟩ | ⟨gp, cp, h0, _⟩
                · omega
                · injection h0 with h0; exact ⟨_, h0⟩
              have c0 := row_cell HI.out.2 (i := (matchN a b ms k).length) (u := .int .i64 k) (by simp [nats, ints, hat])
              have hsn := Hs.out.1
              rw [if_pos hh] at hsn
              have hl1 : (matchN a b ms (k + 1)).length = (matchN a b ms k).length + 1 := by rw [hsn]; simp
              have Hl := hide hl1
              have m0 : (0 : Int) ≤ ((matchN a b ms k).length : Int) := by omega
              have m1 : ((matchN a b ms k).length : Int) < ((matchN a b ms ms.length).length : Int) := by omega
              clear hh hat hsn hl1 q1 q2 Hs
              go_wp2_with fail
              go_roundw
              case rel => exact ⟨k + 1, by omega, by go_num, by rw [Hl.out]; go_num, HI.out.1, HI.out.2⟩
              case measure => simp [intOf]; omega
            · have q2b : (((m &&& b : Nat) : Int) != 0) = true := by simp only [bne_iff_ne, ne_eq]; omega
              have hh : hits a b m = false := by simp [hits, q2]
              have hsn := Hs.out.1
              rw [hh] at hsn
              have Hl : Hid (matchN a b ms (k + 1) = matchN a b ms k) := hide (by simpa using hsn)
              clear hh hsn q1 q2 Hs
              go_wp2_with fail
              go_roundw
              case rel => exact ⟨k + 1, by omega, by go_num, by rw [Hl.out], HI.out.1, HI.out.2⟩
              case measure => simp [intOf]; omega
          · have q1b : (((a &&& (4294967295 - m) : Nat) : Int) != 0) = true := by simp only [bne_iff_ne, ne_eq]; omega
            have hh : hits a b m = false := by simp [hits, q1]
            have hsn := Hs.out.1
            rw [hh] at hsn
            have Hl : Hid (matchN a b ms (k + 1) = matchN a b ms k) := hide (by simpa using hsn)
            clear hh hsn q1 Hs
            go_wp2_with fail
            go_roundw
            case rel => exact ⟨k + 1, by omega, by go_num, by rw [Hl.out], HI.out.1, HI.out.2⟩
            case measure => simp [intOf]; omega
        · have hkn : k = ms.length := by omega
          subst hkn
          go_wp2_with fail
          refine (len_calls HI.out.1.atl).mono ?_
          rintro e w' ⟨rfl, rfl⟩
          go_wp2_with fail
          have q := match_ok HI.out.1.atl 0 0 (by omega) (by omega) (by omega)
          rw [match_all, List.length_range] at q
          refine q.mono ?_
          rintro e w5 ⟨v5, rfl, hrow5, hf⟩
          have H5 := hide (HI.out.1.fr0 hf)
          obtain ⟨A5, c5, rfl⟩ : ∃ A c, v5 = .slice A ms.length c := by
            rcases row_form hrow5 with ⟨rfl, h0, _⟩ | ⟨gp, cp, rfl, _⟩
            · rw [h0]; exact ⟨_, _, rfl⟩
            · exact ⟨_, _, rfl⟩
          clear hf hrow5 q
          go_wp2_with fail
          refine (len_calls H5.out.atl).mono ?_
          rintro e w' ⟨rfl, rfl⟩
          go_wp2_with fail
          go_ret
          exact ⟨rfl, H5.out.below⟩
end Go.Proofs.YtclmmfkbkaldlaaDoor

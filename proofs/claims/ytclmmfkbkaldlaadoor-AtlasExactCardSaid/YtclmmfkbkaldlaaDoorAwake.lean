/- awake of the laws of chapter 08: the document's examples hold. -/
import Derived.Test.YtclmmfkbkaldlaaDoorWayF
namespace Go.Proofs.YtclmmfkbkaldlaaDoor
open Go.RowKit

/-- an atlas of this call's own, beside what a straight way carries -/
structure AI (K : List Nat) (w : World) (ad : Nat → Addr) (g cn : Nat) (ms S : List Nat) (L : List (Nat × TypeId × Array Value)) (wr : World) : Prop where
  atl : AtlR w.heap.size wr g cn ms S
  cx : Cx K w.heap.size ad w wr S L
  tab : Tab w
section
variable {K : List Nat} {w wr w' : World} {ad : Nat → Addr} {g cn : Nat} {ms ms' S S' : List Nat} {L : List (Nat × TypeId × Array Value)}
theorem AI.fr0 (h : AI K w ad g cn ms S L wr) (hf : Fr [] wr w') : AI K w ad g cn ms S L w' := ⟨h.atl.fr0 hf, h.cx.fr0 hf, h.tab⟩
theorem AI.stp (h : AI K w ad g cn ms S L wr) (hr : AtlR w.heap.size w' g cn ms' S') (hst : Stp S S' wr w') : AI K w ad g cn ms' S' L w' := ⟨hr, h.cx.stp hst fun b hb => (hr.lt b hb).1, h.tab⟩
theorem AI.err (h : AI K w ad g cn ms S L wr) (hf : Fr [] wr w') {u : Value} {j : Nat} (hn : NewErr wr w' ad u j) :
    ∃ (b : Nat) (s : ByteArray), u = .iface 99 (.pointer (some ⟨b, 0, none⟩)) ∧ AI K w ad g cn ms S ((b, 101, #[.string s, sv (ad j)]) :: L) w' := by
  obtain ⟨b, s, hu, hc⟩ := h.cx.err hf hn
  exact ⟨b, s, hu, h.atl.fr0 hf, hc, h.tab⟩
theorem AI.alloc (h : AI K w ad g cn ms S L wr) (t : TypeId) (cs : Array Value) : AI K w ad g cn ms S ((wr.heap.size, t, cs) :: L) (wr.alloc (.cells cs t)) := ⟨h.atl.fr0 ((Fr.refl [] _).alloc _), h.cx.alloc t cs, h.tab⟩
theorem AI.below (h : AI K w ad g cn ms S L wr) : Below w.heap.size w wr := h.cx.fr.below (by simp) (Nat.le_refl _)
theorem AI.tab' (h : AI K w ad g cn ms S L wr) : Tab wr := h.tab.below h.tab.1 h.below
theorem AI.chain (h : AI K w ad g cn ms S L wr) {b j : Nat} {s : ByteArray} (hm : (b, 101, #[.string s, sv (ad j)]) ∈ L) : Chain wr ad j (.iface 99 (.pointer (some ⟨b, 0, none⟩))) [b] := chain_of (h.cx.blk hm)
end

set_option maxRecDepth 100000 in
set_option maxHeartbeats 4000000 in
theorem awake_calls {K : List Nat} {w : World} {ad : Nat → Addr} (hs : Sents K w.heap.size w ad) (h1 : 1 ∈ K) (h7 : 7 ∈ K) (hT : Tab w) :
    Calls Tryd.prog 8 #[] w fun e w' => e = .returned (.bool true) ∧ Fr [] w w' := by
  have C := hide (Cx.start hs)
  have HT := hide hT
  clear hs hT
  go_enter Tryd.func8, Tryd.ntmps8
  go_wp2_with fail
  refine (new_ok C.out.leW 4 (by omega)).mono ?_
  rintro e w1 ⟨g, S1, rfl, hr, hf, hn⟩
  have A1 : Hid (AI K w ad g 4 [0] S1 [] w1) := hide ⟨hr, by simpa using C.out.obj hf hn fun b hb => (hr.lt b hb).1, HT.out⟩
  clear hr hf hn C HT
  go_wp2_with fail
  have q := at_ok A1.out.atl A1.out.cx.leW (m := 3) (by decide) (by simp)
  rw [show addm [0] 3 = [0, 3] from by decide, show List.idxOf 3 [0, 3] = 1 from by decide] at q
  refine q.mono ?_
  rintro e w2 ⟨rfl, S2, hr, hst⟩
  have A2 := hide (A1.out.stp hr hst)
  clear hr hst A1 q
  go_wp2_with fail
  have q := awith_ok A2.out.atl A2.out.cx.leW (n := 1) (m := 3) rfl (c := 2) (by omega) (by simp)
  rw [show addm [0, 3] (wth 3 2) = [0, 3, 7] from by decide, show List.idxOf (wth 3 2) [0, 3, 7] = 2 from by decide] at q
  refine q.mono ?_
  rintro e w3 ⟨rfl, S3, hr, hst⟩
  have A3 := hide (A2.out.stp hr hst)
  clear hr hst A2 q
  go_wp2_with fail
  have q := awithout_ok A3.out.atl A3.out.cx.leW (n := 2) (m := 7) rfl (c := 0) (by omega) (by simp)
  rw [show addm [0, 3, 7] (wout 7 0) = [0, 3, 7, 6] from by decide, show List.idxOf (wout 7 0) [0, 3, 7, 6] = 3 from by decide] at q
  refine q.mono ?_
  rintro e w4 ⟨rfl, S4, hr, hst⟩
  have A4 := hide (A3.out.stp hr hst)
  clear hr hst A3 q
  go_wp2_with fail
  have q := way_ok A4.out.tab' A4.out.tab.1 A4.out.atl A4.out.cx.leW (i := 1) (j := 3) (x := 3) (y := 6) rfl rfl (by simp)
  rw [show wayP [0, 3, 7, 6] 1 3 6 = ([0, 3, 7, 6, 2], 6, [1, 4, 3]) from by decide] at q
  refine q.mono ?_
  rintro e w5 ⟨v, S5, rfl, hrow, hr, hst, hdis⟩
  have A5 := hide (A4.out.stp hr hst)
  have R5 := hide hrow
  have D5 := hide hdis
  clear hr hst A4 q hrow hdis
  go_wp2_with fail
  refine (at_arg A5.out.cx.sents h1 A5.out.atl 16 (by decide)).mono ?_
  rintro e w6 ⟨u, rfl, hn, hf⟩
  obtain ⟨b1, s1, rfl, hA⟩ := A5.out.err hf hn
  have A6 := hide hA
  have R6 := hide (row_fr R5.out hf (by simp))
  clear hn hf hA A5 R5
  go_wp2_with fail
  refine (mask_none A6.out.cx.sents h7 A6.out.atl 9 (by right; simp) (by simp)).mono ?_
  rintro e w7 ⟨u, rfl, hn, hf⟩
  obtain ⟨b2, s2, rfl, hA⟩ := A6.out.err hf hn
  have A7 := hide hA
  have R7 := hide (row_fr R6.out hf (by simp))
  clear hn hf hA A6 R6
  have g1 := A7.out.cx.sents.cell 1 h1
  have g7 := A7.out.cx.sents.cell 7 h7
  simp only [gOf] at g1 g7
  go_wp2_with fail
  have A8 := hide (A7.out.alloc 3 #[.int .i64 1, .int .i64 4, .int .i64 3])
  have q := same_calls (xs := [1, 4, 3]) (ys := [1, 4, 3]) (row_fr R7.out ((Fr.refl [] _).alloc (.cells #[.int .i64 1, .int .i64 4, .int .i64 3] 3)) (by simp)) (row_mk (base := 0) (n := 3) (cap := 3) (size := 1) (xs := ints [1, 4, 3]) (Blk.new w7 3 #[.int .i64 1, .int .i64 4, .int .i64 3]) (Nat.zero_le _) (Nat.le_refl _) (by simp [maxLen]) rfl rfl) (by simp) (by simp)
  rw [decide_eq_true (rfl : [(1 : Int), 4, 3] = [1, 4, 3])] at q
  refine q.mono ?_
  rintro e w9 ⟨rfl, hf⟩
  have A9 := hide ((A8.out.fr0 hf).cx.none)
  have B9 := hide (A8.out.fr0 hf)
  clear hf A8 q R7 A7 D5 g1 g7
  have g1 := B9.out.cx.sents.cell 1 h1
  have g7 := B9.out.cx.sents.cell 7 h7
  simp only [gOf] at g1 g7
  go_wp2_with fail
  refine (is_chain B9.out.cx.sents h1 h1 (B9.out.chain (b := b1) (s := s1) (j := 1) (by simp))).mono ?_
  rintro e w' ⟨rfl, rfl⟩
  go_wp2_with fail
  refine (is_chain B9.out.cx.sents h7 h7 (B9.out.chain (b := b2) (s := s2) (j := 7) (by simp))).mono ?_
  rintro e w' ⟨rfl, rfl⟩
  go_wp2_with fail
  refine (len_calls B9.out.atl).mono ?_
  rintro e w' ⟨rfl, rfl⟩
  go_wp2_with fail
  have q := match_ok B9.out.atl 2 1 (by omega) (by omega) (by simp)
  rw [show matchN 2 1 [0, 3, 7, 6, 2] [0, 3, 7, 6, 2].length = [3, 4] from by decide] at q
  refine q.mono ?_
  rintro e wa ⟨v2, rfl, hrow, hf⟩
  have Ba := hide ((B9.out.fr0 hf).alloc 3 #[.int .i64 3, .int .i64 4])
  have Ra := hide hrow
  clear hf hrow q B9 A9
  go_wp2_with fail
  have q := same_calls (xs := [3, 4]) (ys := [3, 4]) (row_fr Ra.out ((Fr.refl [] _).alloc (.cells #[.int .i64 3, .int .i64 4] 3)) (by simp)) (row_mk (base := 0) (n := 2) (cap := 2) (size := 1) (xs := ints [3, 4]) (Blk.new wa 3 #[.int .i64 3, .int .i64 4]) (Nat.zero_le _) (Nat.le_refl _) (by simp [maxLen]) rfl rfl) (by simp) (by simp)
  rw [decide_eq_true (rfl : [(3 : Int), 4] = [3, 4])] at q
  refine q.mono ?_
  rintro e wb ⟨rfl, hf⟩
  have Bb := hide (Ba.out.fr0 hf)
  clear hf q Ba Ra
  go_wp2_with fail
  go_ret
  exact ⟨rfl, Bb.out.cx.fr⟩
end Go.Proofs.YtclmmfkbkaldlaaDoor

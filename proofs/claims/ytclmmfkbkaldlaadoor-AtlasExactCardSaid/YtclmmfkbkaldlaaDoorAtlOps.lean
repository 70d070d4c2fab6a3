/- New, At, node, Mask, Len of package atlas. -/
import Derived.Test.YtclmmfkbkaldlaaDoorGrow
namespace Go.Proofs.YtclmmfkbkaldlaaDoor
open Go.RowKit

/-- the sets with one more, if it isn't there -/
def addm (ms : List Nat) (m : Nat) : List Nat := if m ∈ ms then ms else ms ++ [m]
theorem addm_mem (ms : List Nat) (m : Nat) : m ∈ addm ms m := by unfold addm; split <;> simp_all
theorem addm_get {ms : List Nat} {j m : Nat} (k : Nat) (h : ms[j]? = some m) : (addm ms k)[j]? = some m := by
  unfold addm; split
  · exact h
  · rw [List.getElem?_append_left (List.getElem?_eq_some_iff.1 h).1, h]
theorem addm_len (ms : List Nat) (m : Nat) : (addm ms m).length ≤ ms.length + 1 := by unfold addm; split <;> simp
theorem addm_idx (ms : List Nat) (m : Nat) : (addm ms m)[(addm ms m).idxOf m]? = some m := by
  have h := List.idxOf_lt_length_of_mem (addm_mem ms m)
  rw [List.getElem?_eq_getElem h, List.getElem_idxOf]

set_option maxRecDepth 100000 in
theorem new_ok {B : Nat} {w : World} (hB : B ≤ w.heap.size) (cn : Nat) (hcn : cn ≤ 16) :
    Calls Tryd.prog 9 #[.int .i64 cn] w fun e w' => ∃ g S, e = .returned (.tuple #[.pointer (some ⟨g, 0, none⟩), .nilIface]) ∧ AtlR B w' g cn [0] S ∧ Fr [] w w' ∧ ∀ b ∈ S, w.heap.size ≤ b := by
  have h0 : AtlR B ((w.alloc (.map #[] 0)).alloc (.cells #[.int .i64 cn, .slice none 0 0, .map (some w.heap.size)] 67)) (w.heap.size + 1) cn [] [w.heap.size + 1, w.heap.size] := by
    refine ⟨w.heap.size, .slice none 0 0, [], ⟨by omega, Blk.new_at _ _ _ _ (by simp), World.ownsRow_nil _ _ _ _, by simp, hB, ?_, hcn, by simp [Value.ownBlock], by simp, by simp, by simp⟩, rfl, by simp [Value.ownBlock]⟩
    exact (MapIs.made w).fr (T := []) ((Fr.refl _ _).alloc _) (by simp)
  have hf0 : Fr [] w ((w.alloc (.map #[] 0)).alloc (.cells #[.int .i64 cn, .slice none 0 0, .map (some w.heap.size)] 67)) := ((Fr.refl _ _).alloc _).alloc _
  have H0 := hide (And.intro h0 (And.intro hf0 (And.intro (grow_ok h0 (m := 0) (by simp; omega) (Nat.two_pow_pos _) (by simp) (by simp)) hB)))
  clear h0 hf0
  have hmm := @run_makeMap Tryd.prog
  go_enter Tryd.func9, Tryd.ntmps9
  go_wp2_with fail
  refine H0.out.2.2.1.mono ?_
  rintro e w' ⟨rfl, S', hr, hst⟩
  have H1 := hide (And.intro hr hst)
  clear hr hst
  go_wp2_with fail
  go_ret2
  refine ⟨_, _, rfl, H1.out.1, H0.out.2.1.step H1.out.2.1 ?_, ?_⟩
  · intro x hx; simp at hx; omega
  · intro b hb
    rcases H1.out.2.2 b hb with h | h
    · simp at h; omega
    · simp at h; omega
theorem new_err {K : List Nat} {B : Nat} {w : World} {ad : Nat → Addr} (hs : Sents K B w ad) (hK : 1 ∈ K) (n : Int) (hn : n < 0 ∨ 16 < n) :
    Calls Tryd.prog 9 #[.int .i64 n] w fun e w' => ∃ v, e = .returned (.tuple #[.pointer none, v]) ∧ NewErr w w' ad v 1 ∧ Fr [] w w' := by
  have c2 := hs.cell 1 hK
  simp only [gOf] at c2
  clear hs
  by_cases h1 : n < 0
  all_goals by_cases h2 : 16 < n
  all_goals first | (exfalso; omega) | skip
  all_goals
    go_enter Tryd.func9, Tryd.ntmps9
    go_wp2_with fail
    refine (wrong_sent (ad := ad) (k := 1)).mono ?_
    rintro e w' ⟨v, rfl, hn, hf⟩
    obtain ⟨t, a, rfl⟩ := hn.form
    have Hn := hide (And.intro hn hf)
    clear hn hf
    go_wp2
    go_ret2
    exact ⟨_, rfl, Hn.out.1, Hn.out.2⟩
theorem len_calls {B : Nat} {w : World} {g cn : Nat} {ms S : List Nat} (h : AtlR B w g cn ms S) :
    Calls Tryd.prog 12 #[.pointer (some ⟨g, 0, none⟩)] w fun e w' => e = .returned (.int .i64 ms.length) ∧ w = w' := by
  obtain ⟨bm, vN, ns, hA, rfl, rfl⟩ := h
  obtain ⟨A2, c2, rfl⟩ := hA.form
  have g1 := hA.blk.at_ 1 (v := .slice A2 ns.length c2) rfl
  have lg := hA.blk.lt
  clear hA
  go_enter Tryd.func12, Tryd.ntmps12
  go_wp2_with fail
  go_ret
  exact ⟨ret_eq (by simp), rfl⟩
theorem len_nil (w : World) : Calls Tryd.prog 12 #[.pointer none] w fun e w' => e = .returned (.int .i64 0) ∧ w = w' := by
  go_enter Tryd.func12, Tryd.ntmps12
  go_wp2_with fail
  go_ret
  exact ⟨rfl, rfl⟩
/-! ### node -/
theorem node_ok {B : Nat} {w : World} {g cn bm : Nat} {vN : Value} {ns : List (Nat × Nd)} (hA : AtlS B w g cn bm vN ns) {n : Nat} {x : Nat × Nd} (hx : ns[n]? = some x) (hl : ns.length ≤ 1000000) :
    Calls Tryd.prog 28 #[.pointer (some ⟨g, 0, none⟩), .int .i64 n] w fun e w' => e = .returned (.tuple #[.pointer (some ⟨x.1, 0, none⟩), .nilIface]) ∧ w = w' := by
  have hn : n < ns.length := (List.getElem?_eq_some_iff.1 hx).1
  obtain ⟨gp, cp, rfl⟩ : ∃ gp cp, vN = .slice (some ⟨gp, 0, none⟩) ns.length cp := by
    rcases row_form hA.row with ⟨_, h0, _⟩ | ⟨gp, cp, rfl, _⟩
    · omega
    · exact ⟨_, _, rfl⟩
  have g1 := hA.blk.at_ 1 (v := .slice (some ⟨gp, 0, none⟩) ns.length cp) rfl
  have lg := hA.blk.lt
  have k0 := row_cell hA.row (i := n) (u := .pointer (some ⟨x.1, 0, none⟩)) (by simp [hx])
  have n0 : (0 : Int) ≤ (n : Int) := by omega
  have n1 : (n : Int) < (ns.length : Int) := by omega
  clear hA hx
  go_enter Tryd.func28, Tryd.ntmps28
  go_wp2_with fail
  go_ret2
  exact ⟨rfl, rfl⟩
theorem node_none {K : List Nat} {B B' : Nat} {w : World} {ad : Nat → Addr} (hs : Sents K B' w ad) (hK : 7 ∈ K) {g cn : Nat} {ms S : List Nat} (h : AtlR B w g cn ms S) (n : Int) (hn : n < 0 ∨ (ms.length : Int) ≤ n) (hl : ms.length ≤ 1000000) :
    Calls Tryd.prog 28 #[.pointer (some ⟨g, 0, none⟩), .int .i64 n] w fun e w' => ∃ v, e = .returned (.tuple #[.pointer none, v]) ∧ NewErr w w' ad v 7 ∧ Fr [] w w' := by
  have q2 := hs.cell 7 hK
  simp only [gOf] at q2
  obtain ⟨bm, vN, ns, hA, rfl, rfl⟩ := h
  obtain ⟨A2, c2, rfl⟩ := hA.form
  have g1 := hA.blk.at_ 1 (v := .slice A2 ns.length c2) rfl
  have lg := hA.blk.lt
  rw [List.length_map] at hn hl
  clear hs hA
  by_cases h1 : n < 0
  · go_enter Tryd.func28, Tryd.ntmps28
    go_wp2_with fail
    refine (wrong_sent (ad := ad) (k := 7)).mono ?_
    rintro e w' ⟨v, rfl, hn, hf⟩
    obtain ⟨t, a, rfl⟩ := hn.form
    have Hn := hide (And.intro hn hf)
    clear hn hf
    go_wp2
    go_ret2
    exact ⟨_, rfl, Hn.out.1, Hn.out.2⟩
  · have h2 : (ns.length : Int) ≤ n := by omega
    go_enter Tryd.func28, Tryd.ntmps28
    go_wp2_with fail
    refine (wrong_sent (ad := ad) (k := 7)).mono ?_
    rintro e w' ⟨v, rfl, hn, hf⟩
    obtain ⟨t, a, rfl⟩ := hn.form
    have Hn := hide (And.intro hn hf)
    clear hn hf
    go_wp2
    go_ret2
    exact ⟨_, rfl, Hn.out.1, Hn.out.2⟩
theorem node_nil {K : List Nat} {B' : Nat} {w : World} {ad : Nat → Addr} (hs : Sents K B' w ad) (hK : 2 ∈ K) (n : Int) :
    Calls Tryd.prog 28 #[.pointer none, .int .i64 n] w fun e w' => ∃ v, e = .returned (.tuple #[.pointer none, v]) ∧ NewErr w w' ad v 2 ∧ Fr [] w w' := by
  have q2 := hs.cell 2 hK
  simp only [gOf] at q2
  clear hs
  go_enter Tryd.func28, Tryd.ntmps28
  go_wp2_with fail
  refine (wrong_sent (ad := ad) (k := 2)).mono ?_
  rintro e w' ⟨v, rfl, hn, hf⟩
  obtain ⟨t, a, rfl⟩ := hn.form
  have Hn := hide (And.intro hn hf)
  clear hn hf
  go_wp2
  go_ret2
  exact ⟨_, rfl, Hn.out.1, Hn.out.2⟩
/-! ### Mask -/
theorem mask_ok {B : Nat} {w : World} {g cn : Nat} {ms S : List Nat} (h : AtlR B w g cn ms S) {n m : Nat} (hm : ms[n]? = some m) (hl : ms.length ≤ 1000000) :
    Calls Tryd.prog 11 #[.pointer (some ⟨g, 0, none⟩), .int .i64 n] w fun e w' => e = .returned (.tuple #[.int .u32 m, .nilIface]) ∧ w = w' := by
  obtain ⟨bm, vN, ns, hA, rfl, rfl⟩ := h
  rw [List.length_map] at hl
  rw [List.getElem?_map, Option.map_eq_some_iff] at hm
  obtain ⟨x, hx, rfl⟩ := hm
  have hb := (hA.nd x (List.mem_of_getElem? hx)).1
  have H := hide (node_ok hA hx hl)
  have b0 := hb.at_ 0 (ndCells_0 _)
  clear hA hx hb
  go_enter Tryd.func11, Tryd.ntmps11
  go_wp2_with fail
  refine H.out.mono ?_
  rintro e w' ⟨rfl, rfl⟩
  go_wp2_with fail
  go_ret2
  exact ⟨rfl, rfl⟩
theorem mask_none {K : List Nat} {B B' : Nat} {w : World} {ad : Nat → Addr} (hs : Sents K B' w ad) (hK : 7 ∈ K) {g cn : Nat} {ms S : List Nat} (h : AtlR B w g cn ms S) (n : Int) (hn : n < 0 ∨ (ms.length : Int) ≤ n) (hl : ms.length ≤ 1000000) :
    Calls Tryd.prog 11 #[.pointer (some ⟨g, 0, none⟩), .int .i64 n] w fun e w' => ∃ v, e = .returned (.tuple #[.int .u32 0, v]) ∧ NewErr w w' ad v 7 ∧ Fr [] w w' := by
  have H := hide (node_none hs hK h n hn hl)
  clear hs h hn
  go_enter Tryd.func11, Tryd.ntmps11
  go_wp2_with fail
  refine H.out.mono ?_
  rintro e w' ⟨v, rfl, hn, hf⟩
  obtain ⟨t, a, rfl⟩ := hn.form
  have Hn := hide (And.intro hn hf)
  clear hn hf
  go_wp2_with fail
  go_ret2
  exact ⟨_, rfl, Hn.out.1, Hn.out.2⟩
theorem mask_nil {K : List Nat} {B' : Nat} {w : World} {ad : Nat → Addr} (hs : Sents K B' w ad) (hK : 2 ∈ K) (n : Int) :
    Calls Tryd.prog 11 #[.pointer none, .int .i64 n] w fun e w' => ∃ v, e = .returned (.tuple #[.int .u32 0, v]) ∧ NewErr w w' ad v 2 ∧ Fr [] w w' := by
  have H := hide (node_nil hs hK n)
  clear hs
  go_enter Tryd.func11, Tryd.ntmps11
  go_wp2_with fail
  refine H.out.mono ?_
  rintro e w' ⟨v, rfl, hn, hf⟩
  obtain ⟨t, a, rfl⟩ := hn.form
  have Hn := hide (And.intro hn hf)
  clear hn hf
  go_wp2_with fail
  go_ret2
  exact ⟨_, rfl, Hn.out.1, Hn.out.2⟩
/-! ### At -/
theorem at_nil {K : List Nat} {B' : Nat} {w : World} {ad : Nat → Addr} (hs : Sents K B' w ad) (hK : 2 ∈ K) (m : Nat) :
    Calls Tryd.prog 10 #[.pointer none, .int .u32 m] w fun e w' => ∃ v, e = .returned (.tuple #[.int .i64 0, v]) ∧ NewErr w w' ad v 2 ∧ Fr [] w w' := by
  have q2 := hs.cell 2 hK
  simp only [gOf] at q2
  clear hs
  go_enter Tryd.func10, Tryd.ntmps10
  go_wp2_with fail
  refine (wrong_sent (ad := ad) (k := 2)).mono ?_
  rintro e w' ⟨v, rfl, hn, hf⟩
  obtain ⟨t, a, rfl⟩ := hn.form
  have Hn := hide (And.intro hn hf)
  clear hn hf
  go_wp2
  go_ret2
  exact ⟨_, rfl, Hn.out.1, Hn.out.2⟩
theorem shr_small {m cn : Nat} (h : m < 2 ^ cn) : (((m : Int) / 2 ^ cn) != 0) = false := by
  have e : ((m : Int) / 2 ^ cn) = ((m / 2 ^ cn : Nat) : Int) := by simp
  rw [e, Nat.div_eq_of_lt h]
  rfl
theorem shr_big {m cn : Nat} (h : ¬ m < 2 ^ cn) : (((m : Int) / 2 ^ cn) != 0) = true := by
  have e : ((m : Int) / 2 ^ cn) = ((m / 2 ^ cn : Nat) : Int) := by simp
  have h2 : 0 < m / 2 ^ cn := Nat.div_pos (by omega) (Nat.two_pow_pos _)
  rw [e]
  simp only [bne_iff_ne, ne_eq]
  omega
theorem at_arg {K : List Nat} {B B' : Nat} {w : World} {ad : Nat → Addr} (hs : Sents K B' w ad) (hK : 1 ∈ K) {g cn : Nat} {ms S : List Nat} (h : AtlR B w g cn ms S) (m : Nat) (hm : ¬ m < 2 ^ cn) :
    Calls Tryd.prog 10 #[.pointer (some ⟨g, 0, none⟩), .int .u32 m] w fun e w' => ∃ v, e = .returned (.tuple #[.int .i64 0, v]) ∧ NewErr w w' ad v 1 ∧ Fr [] w w' := by
  have q2 := hs.cell 1 hK
  simp only [gOf] at q2
  have hz := shr_big hm
  have hc := h.cn16
  obtain ⟨bm, vN, ns, hA, rfl, rfl⟩ := h
  have g0 := hA.blk.at_ 0 (v := .int .i64 cn) rfl
  have lg := hA.blk.lt
  clear hs hA hm
  go_enter Tryd.func10, Tryd.ntmps10
  go_wp2_with fail
  refine (wrong_sent (ad := ad) (k := 1)).mono ?_
  rintro e w' ⟨v, rfl, hn, hf⟩
  obtain ⟨t, a, rfl⟩ := hn.form
  have Hn := hide (And.intro hn hf)
  clear hn hf
  go_wp2
  go_ret2
  exact ⟨_, rfl, Hn.out.1, Hn.out.2⟩
set_option maxRecDepth 100000 in
theorem at_okS {B : Nat} {w : World} {g cn bm : Nat} {vN : Value} {ns : List (Nat × Nd)} (hA : AtlS B w g cn bm vN ns) (hB : B ≤ w.heap.size) {m : Nat} (hm : m < 2 ^ cn) (hl : (ns.map (·.2.m)).length ≤ 1000000) :
    Calls Tryd.prog 10 #[.pointer (some ⟨g, 0, none⟩), .int .u32 m] w fun e w' => e = .returned (.tuple #[.int .i64 ((addm (ns.map (·.2.m)) m).idxOf m : Nat), .nilIface]) ∧
      ∃ vN' more, AtlS B w' g cn bm vN' (ns ++ more) ∧ (ns ++ more).map (·.2.m) = addm (ns.map (·.2.m)) m ∧ Stp (blks g bm vN ns) (blks g bm vN' (ns ++ more)) w w' := by
  have hm32 : m < 4294967296 := Nat.lt_of_lt_of_le hm (pow_le32 (by have := hA.cn16; omega))
  have hc := hA.cn16
  have hz := shr_small hm
  have H := hide hA
  have g0 := hA.blk.at_ 0 (v := .int .i64 cn) rfl
  have g2 := hA.blk.at_ 2 (v := .map (some bm)) rfl
  have lg := hA.blk.lt
  have hlook := hA.map.look hm32
  clear hA hm32
  by_cases hin : m ∈ ns.map (·.2.m)
  · rw [if_pos hin, decide_eq_true hin] at hlook
    have ea : addm (ns.map (·.2.m)) m = ns.map (·.2.m) := if_pos hin
    rw [ea]
    have Hm := hide hm
    clear ea hin hm
    go_enter Tryd.func10, Tryd.ntmps10
    go_wp2_with fail
    go_ret2
    exact ⟨rfl, vN, [], by simpa using H.out, by simp, Fr.refl _ _, fun b hb => .inl (by simpa using hb)⟩
  · rw [if_neg hin, decide_eq_false hin] at hlook
    have ea : addm (ns.map (·.2.m)) m = ns.map (·.2.m) ++ [m] := if_neg hin
    have ei : (ns.map (·.2.m) ++ [m]).idxOf m = (ns.map (·.2.m)).length := by rw [List.idxOf_append, if_neg hin]; simp
    rw [ea, ei]
    have Hm := hide (grow_okS H.out hB hm hin hl)
    clear ea ei hin hm
    go_enter Tryd.func10, Tryd.ntmps10
    go_wp2_with fail
    refine Hm.out.mono ?_
    rintro e w' ⟨rfl, vN', y, hr, hy, hst⟩
    have H1 := hide (And.intro hr (And.intro hy hst))
    clear hr hst hy
    go_wp2_with fail
    go_ret2
    exact ⟨by simp, vN', [y], H1.out.1, by simp [H1.out.2.1], H1.out.2.2⟩
theorem at_ok {B : Nat} {w : World} {g cn : Nat} {ms S : List Nat} (h : AtlR B w g cn ms S) (hB : B ≤ w.heap.size) {m : Nat} (hm : m < 2 ^ cn) (hl : ms.length ≤ 1000000) :
    Calls Tryd.prog 10 #[.pointer (some ⟨g, 0, none⟩), .int .u32 m] w fun e w' => e = .returned (.tuple #[.int .i64 ((addm ms m).idxOf m : Nat), .nilIface]) ∧ ∃ S', AtlR B w' g cn (addm ms m) S' ∧ Stp S S' w w' := by
  obtain ⟨bm, vN, ns, hA, rfl, rfl⟩ := h
  refine (at_okS hA hB hm hl).mono ?_
  rintro e w' ⟨rfl, vN', more, h1, h2, h3⟩
  exact ⟨rfl, _, ⟨bm, vN', _, h1, h2.symm, rfl⟩, h3⟩
end Go.Proofs.YtclmmfkbkaldlaaDoor

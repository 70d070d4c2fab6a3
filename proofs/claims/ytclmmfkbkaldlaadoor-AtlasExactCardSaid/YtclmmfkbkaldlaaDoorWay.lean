/- With, Without, Match, walk, Way of package atlas. -/
import Derived.Test.YtclmmfkbkaldlaaDoorEdge
import Derived.Test.YtclmmfkbkaldlaaDoorBits
namespace Go.Proofs.YtclmmfkbkaldlaaDoor
open Go.RowKit

/-! ### edge's errors -/
theorem edge_none {K : List Nat} {B B' : Nat} {w : World} {ad : Nat → Addr} (hs : Sents K B' w ad) (hK : 7 ∈ K) {g cn : Nat} {ms S : List Nat} (h : AtlR B w g cn ms S) (n c : Int) (more : Bool) (hn : n < 0 ∨ (ms.length : Int) ≤ n) (hl : ms.length ≤ 1000000) :
    Calls Tryd.prog 29 #[.pointer (some ⟨g, 0, none⟩), .int .i64 n, .int .i64 c, .bool more] w fun e w' => ∃ v, e = .returned (.tuple #[.int .i64 0, v]) ∧ NewErr w w' ad v 7 ∧ Fr [] w w' := by
  have H := hide (node_none hs hK h n hn hl)
  clear hs h hn
  go_enter Tryd.func29, Tryd.ntmps29
  go_wp2_with fail
  refine H.out.mono ?_
  rintro e w' ⟨v, rfl, hn, hf⟩
  obtain ⟨t, a, rfl⟩ := hn.form
  have Hn := hide (And.intro hn hf)
  clear hn hf
  go_wp2_with fail
  go_ret2
  exact ⟨_, rfl, Hn.out.1, Hn.out.2⟩
theorem edge_arg {K : List Nat} {B B' : Nat} {w : World} {ad : Nat → Addr} (hs : Sents K B' w ad) (hK : 1 ∈ K) {g cn : Nat} {ms S : List Nat} (h : AtlR B w g cn ms S) {n m : Nat} (hm : ms[n]? = some m) (c : Int) (more : Bool) (hc : c < 0 ∨ (cn : Int) ≤ c) (hl : ms.length ≤ 1000000) :
    Calls Tryd.prog 29 #[.pointer (some ⟨g, 0, none⟩), .int .i64 n, .int .i64 c, .bool more] w fun e w' => ∃ v, e = .returned (.tuple #[.int .i64 0, v]) ∧ NewErr w w' ad v 1 ∧ Fr [] w w' := by
  have q2 := hs.cell 1 hK
  simp only [gOf] at q2
  obtain ⟨bm, vN, ns, hA, rfl, rfl⟩ := h
  rw [List.length_map] at hl
  rw [List.getElem?_map, Option.map_eq_some_iff] at hm
  obtain ⟨x, hx, rfl⟩ := hm
  have H := hide (node_ok hA hx hl)
  have ga := hA.blk.at_ 0 (v := .int .i64 cn) rfl
  have lga := hA.blk.lt
  clear hs hA hx
  by_cases h1 : c < 0
  · go_enter Tryd.func29, Tryd.ntmps29
    go_wp2_with fail
    refine H.out.mono ?_
    rintro e w' ⟨rfl, rfl⟩
    go_wp2_with fail
    refine (wrong_sent (ad := ad) (k := 1)).mono ?_
    rintro e w' ⟨v, rfl, hn, hf⟩
    obtain ⟨t, a, rfl⟩ := hn.form
    have Hn := hide (And.intro hn hf)
    clear hn hf
    go_wp2_with fail
    go_ret2
    exact ⟨_, rfl, Hn.out.1, Hn.out.2⟩
  · have h2 : (cn : Int) ≤ c := by omega
    go_enter Tryd.func29, Tryd.ntmps29
    go_wp2_with fail
    refine H.out.mono ?_
    rintro e w' ⟨rfl, rfl⟩
    go_wp2_with fail
    refine (wrong_sent (ad := ad) (k := 1)).mono ?_
    rintro e w' ⟨v, rfl, hn, hf⟩
    obtain ⟨t, a, rfl⟩ := hn.form
    have Hn := hide (And.intro hn hf)
    clear hn hf
    go_wp2_with fail
    go_ret2
    exact ⟨_, rfl, Hn.out.1, Hn.out.2⟩
/-! ### With, Without -/
theorem awith_ok {B : Nat} {w : World} {g cn : Nat} {ms S : List Nat} (h : AtlR B w g cn ms S) (hB : B ≤ w.heap.size) {n m : Nat} (hm : ms[n]? = some m) {c : Nat} (hc : c < cn) (hl : ms.length ≤ 1000000) :
    Calls Tryd.prog 13 #[.pointer (some ⟨g, 0, none⟩), .int .i64 n, .int .i64 c] w fun e w' => e = .returned (.tuple #[.int .i64 ((addm ms (wth m c)).idxOf (wth m c) : Nat), .nilIface]) ∧ ∃ S', AtlR B w' g cn (addm ms (wth m c)) S' ∧ Stp S S' w w' := by
  have H := hide (edge_more h hB hm hc hl)
  clear h hB hm hc hl
  go_enter Tryd.func13, Tryd.ntmps13
  go_wp2_with fail
  refine H.out.mono ?_
  rintro e w' ⟨rfl, h2⟩
  have H2 := hide h2
  clear h2
  go_wp2_with fail
  go_ret2
  exact ⟨rfl, H2.out⟩
theorem awithout_ok {B : Nat} {w : World} {g cn : Nat} {ms S : List Nat} (h : AtlR B w g cn ms S) (hB : B ≤ w.heap.size) {n m : Nat} (hm : ms[n]? = some m) {c : Nat} (hc : c < cn) (hl : ms.length ≤ 1000000) :
    Calls Tryd.prog 14 #[.pointer (some ⟨g, 0, none⟩), .int .i64 n, .int .i64 c] w fun e w' => e = .returned (.tuple #[.int .i64 ((addm ms (wout m c)).idxOf (wout m c) : Nat), .nilIface]) ∧ ∃ S', AtlR B w' g cn (addm ms (wout m c)) S' ∧ Stp S S' w w' := by
  have H := hide (edge_less h hB hm hc hl)
  clear h hB hm hc hl
  go_enter Tryd.func14, Tryd.ntmps14
  go_wp2_with fail
  refine H.out.mono ?_
  rintro e w' ⟨rfl, h2⟩
  have H2 := hide h2
  clear h2
  go_wp2_with fail
  go_ret2
  exact ⟨rfl, H2.out⟩
/-! ### Match -/
def hits (a b m : Nat) : Bool := decide (a &&& (4294967295 - m) = 0) && decide (m &&& b = 0)
/-- the places, among the first k, of the sets that match -/
def matchN (a b : Nat) (ms : List Nat) (k : Nat) : List Nat := (List.range k).filter fun i => hits a b (ms.getD i 0)
theorem match_len (a b : Nat) (ms : List Nat) (k : Nat) : (matchN a b ms k).length ≤ k := by
  have := List.length_filter_le (fun i => hits a b (ms.getD i 0)) (List.range k)
  simpa [matchN] using this
theorem match_snoc {a b : Nat} {ms : List Nat} {k m : Nat} (h : ms[k]? = some m) : matchN a b ms (k + 1) = matchN a b ms k ++ if hits a b m then [k] else [] := by
  unfold matchN
  rw [List.range_succ, List.filter_append]
  congr 1
  have e : ms.getD k 0 = m := by simp [h]
  simp only [List.filter_cons, List.filter_nil, e]
theorem match_nil (w : World) (a b : Nat) : Calls Tryd.prog 17 #[.pointer none, .int .u32 a, .int .u32 b] w fun e w' => e = .returned (.slice none 0 0) ∧ w = w' := by
  go_enter Tryd.func17, Tryd.ntmps17
  go_wp2_with fail
  go_ret
  exact ⟨rfl, rfl⟩
set_option maxRecDepth 100000 in
set_option maxHeartbeats 2000000 in
theorem match_ok {B : Nat} {w : World} {g cn : Nat} {ms S : List Nat} (h : AtlR B w g cn ms S) (a b : Nat) (ha : a < 4294967296) (hb : b < 4294967296) (hl : ms.length ≤ 1000000) :
    Calls Tryd.prog 17 #[.pointer (some ⟨g, 0, none⟩), .int .u32 a, .int .u32 b] w fun e w' => ∃ v, e = .returned v ∧ w'.ownsRow w.heap.size 3 1 v (matchN a b ms ms.length).length (nats (matchN a b ms ms.length)) ∧ Fr [] w w' := by
  obtain ⟨bm, vN, ns, hA, rfl, rfl⟩ := h
  obtain ⟨A2, c2, rfl⟩ := hA.form
  have HA := hide hA
  have Hab := hide (And.intro ha hb)
  rw [List.length_map] at hl
  have g1 := hA.blk.at_ 1 (v := .slice A2 ns.length c2) rfl
  have lg := hA.blk.lt
  obtain ⟨i0, hi0, hz0, hz1, hz2⟩ := info_parts infoInt
  clear hA ha hb
  go_enter Tryd.func17, Tryd.ntmps17
  go_wp2_with fail
  go_loopw [6, 16] (fun s6 s16 wr => ∃ k : Nat, k ≤ ns.length ∧ s16 = .int .i64 k ∧ wr.ownsRow w.heap.size 3 1 s6 (matchN a b (ns.map (·.2.m)) k).length (nats (matchN a b (ns.map (·.2.m)) k)) ∧ Fr [] w wr) (fun _ s16 _ => ns.length - (intOf s16).toNat)
  case atStart => exact ⟨0, by omega, rfl, by simpa [matchN, nats, ints] using World.ownsRow_nil _ _ _ _, Fr.refl _ _⟩
  case round =>
    obtain ⟨k, hk, rfl, hr, hf⟩ := hrel
    clear g1 lg
    by_cases hlt : k < ns.length
    · obtain ⟨x, hx⟩ : ∃ x, ns[k]? = some x := ⟨_, List.getElem?_eq_getElem hlt⟩
      have hA2 := HA.out.fr0 hf
      have hxm := List.mem_of_getElem? hx
      obtain ⟨gp, rfl⟩ : ∃ gp, A2 = some ⟨gp, 0, none⟩ := by
        rcases row_form hA2.row with ⟨_, h0, _⟩ | ⟨gp, cp, h0, _⟩
        · omega
        · injection h0 with h0; exact ⟨_, h0⟩
      have k0 := row_cell hA2.row (i := k) (u := .pointer (some ⟨x.1, 0, none⟩)) (by simp [hx])
      have b0 := (hA2.nd x hxm).1.at_ 0 (ndCells_0 _)
      have lb := (hA2.nd x hxm).1.lt
      have n0 : (0 : Int) ≤ (k : Int) := by omega
      have n1 : (k : Int) < (ns.length : Int) := by omega
      have hsn := match_snoc (a := a) (b := b) (ms := ns.map (·.2.m)) (k := k) (m := x.2.m) (by simp [hx])
      have hle := match_len a b (ns.map (·.2.m)) k
      have hx32 : x.2.m < 4294967296 := Nat.lt_of_lt_of_le (HA.out.small x hxm) (pow_le32 (by have := HA.out.cn16; omega))
      have hand : bits .and .u32 (x.2.m : Int) (b : Int) = ((x.2.m &&& b : Nat) : Int) := u32_and_nat _ _ hx32 Hab.out.2
      have hsz := hf.size
      have H := hide (And.intro hr (And.intro hf hsn))
      clear hr hf hsn hx hxm hA2
      by_cases q1 : a &&& (4294967295 - x.2.m) = 0
      · have HW := hide (fun w => within_calls a x.2.m Hab.out.1 hx32 w)
        rw [decide_eq_true q1] at HW
        clear hx32
        by_cases q2 : x.2.m &&& b = 0
        · have hq : hits a b x.2.m = true := by simp [hits, q1, q2]
          have hq2 : (((x.2.m &&& b : Nat) : Int) == 0) = true := by simp [q2]
          rw [q2] at hand
          have Hq := hide hq
          clear q1 q2 hq hq2
          go_wp2_with fail
          refine (HW.out _).mono ?_
          rintro e w' ⟨rfl, rfl⟩
          go_wp2_with (at_builtin; refine wpList_append_lies _ rfl _ _ _ rfl w.heap.size 3 i0 _ 1 8 Tryd.underlying29 hi0 hz0 hz1 hz2 rfl (by omega) (u6) ((matchN a b (List.map (fun x => x.snd.m) ns) k).length) (nats (matchN a b (List.map (fun x => x.snd.m) ns) k)) rfl ((H.out.1.alloc _)) ⟨wr.heap.size, 0, none⟩ 1 1 [.int .i64 k] rfl rfl (World.news_of_block (cs := #[.int .i64 k]) (t := 3) (fr := (0, 0)) (Blk.new_at _ _ _ _ (by simp))) (by simp [Value.oneCell']) (by omega) (by unfold maxLen; omega) (by omega) (by simp; omega) (wr.heap.size + 1) (by simp) ?_; intro gg cap w3 hown3 hgrow hat hlt3)
          go_roundw
          case rel =>
            obtain ⟨hr, hf, hsn⟩ := H.out
            refine ⟨k + 1, by omega, by go_num, ?_, (hf.alloc _).grown hgrow (fun b hb => .inr (row_lt hr hb).2)⟩
            rw [hsn, if_pos Hq.out, List.length_append, List.length_singleton]
            have e : nats (matchN a b (List.map (fun x => x.snd.m) ns) k ++ [k]) = nats (matchN a b (List.map (fun x => x.snd.m) ns) k) ++ [.int .i64 k] := by simp [nats, ints]
            rw [e]
            exact hown3
          case measure => simp [intOf]; omega
        · have hq : hits a b x.2.m = false := by simp [hits, q2]
          have hq2 : (((x.2.m &&& b : Nat) : Int) == 0) = false := by simp; omega
          have Hq := hide hq
          clear q1 q2 hq
          go_wp2_with fail
          refine (HW.out _).mono ?_
          rintro e w' ⟨rfl, rfl⟩
          go_wp2_with fail
          go_roundw
          case rel =>
            obtain ⟨hr, hf, hsn⟩ := H.out
            refine ⟨k + 1, by omega, by go_num, ?_, hf⟩
            rw [hsn, Hq.out]
            simpa using hr
          case measure => simp [intOf]; omega
      · have HW := hide (fun w => within_calls a x.2.m Hab.out.1 hx32 w)
        rw [decide_eq_false q1] at HW
        have Hq := hide (show hits a b x.2.m = false by simp [hits, q1])
        clear hx32 q1
        go_wp2_with fail
        refine (HW.out _).mono ?_
        rintro e w' ⟨rfl, rfl⟩
        go_wp2_with fail
        go_roundw
        case rel =>
          obtain ⟨hr, hf, hsn⟩ := H.out
          refine ⟨k + 1, by omega, by go_num, ?_, hf⟩
          rw [hsn, Hq.out]
          simpa using hr
        case measure => simp [intOf]; omega
    · have hkn : k = ns.length := by omega
      subst hkn
      have H := hide (And.intro hr hf)
      clear hr hf
      go_wp2_with fail
      go_ret
      refine ⟨_, rfl, ?_, H.out.2⟩
      simpa using H.out.1
end Go.Proofs.YtclmmfkbkaldlaaDoor

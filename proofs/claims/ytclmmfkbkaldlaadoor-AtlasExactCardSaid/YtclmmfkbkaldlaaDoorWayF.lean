/- Way of package atlas. -/
import Derived.Test.YtclmmfkbkaldlaaDoorWalkF
namespace Go.Proofs.YtclmmfkbkaldlaaDoor
open Go.RowKit

theorem At_runs (more : Bool) : ∀ (cs : List Nat) (s : List Nat × Nat × List Nat), At s → At (runs more s cs)
  | [], _, h => h
  | c :: cs, s, _ => At_runs more cs (Go.Proofs.YtclmmfkbkaldlaaDoor.stp more s c) (At.stp s more c)
def wayP (ms : List Nat) (n x y : Nat) : List Nat × Nat × List Nat := runs true (runs false (ms, x, [n]) (bitsOf (x &&& (4294967295 - y)))) (bitsOf (y &&& (4294967295 - x)))
theorem andn_lt {x y k : Nat} (h : x < 2 ^ k) : x &&& y < 2 ^ k := Nat.lt_of_le_of_lt Nat.and_le_left h
def WayPost (B : Nat) (w : World) (g cn : Nat) (S : List Nat) (s : List Nat × Nat × List Nat) (e : Ending) (w' : World) : Prop :=
  ∃ v S', e = .returned (.tuple #[v, .nilIface]) ∧ w'.ownsRow w.heap.size 3 1 v s.2.2.length (nats s.2.2) ∧ AtlR B w' g cn s.1 S' ∧ Stp S S' w w' ∧ (∀ b, v.ownBlock = some b → b ∉ S')
set_option maxRecDepth 100000 in
set_option maxHeartbeats 2000000 in
theorem way_ok {B : Nat} {w : World} {g cn : Nat} {ms S : List Nat} (hT : Tab w) (hTB : 18 < B) (h : AtlR B w g cn ms S) (hB : B ≤ w.heap.size) {i j x y : Nat} (hx : ms[i]? = some x) (hy : ms[j]? = some y) (hl : ms.length ≤ 100000) :
    Calls Tryd.prog 15 #[.pointer (some ⟨g, 0, none⟩), .int .i64 i, .int .i64 j] w (WayPost B w g cn S (wayP ms i x y)) := by
  have hc := h.cn16
  have hx1 := h.small x (List.mem_of_getElem? hx)
  have hy1 := h.small y (List.mem_of_getElem? hy)
  have hx32 : x < 4294967296 := Nat.lt_of_lt_of_le hx1 (pow_le32 (by omega))
  have hy32 : y < 4294967296 := Nat.lt_of_lt_of_le hy1 (pow_le32 (by omega))
  have M1 := hide (mask_ok h hx (by omega))
  have M2 := hide (mask_ok h hy (by omega))
  have e1 := u32_andNot_nat x y hx32 hy32
  have e2 := u32_andNot_nat y x hy32 hx32
  have hf1 : Fr [] w (w.alloc (.cells #[.int .i64 i] 3)) := (Fr.refl _ _).alloc _
  have hrow : (w.alloc (.cells #[.int .i64 i] 3)).ownsRow w.heap.size 3 1 (.slice (some ⟨w.heap.size, 0, none⟩) 1 1) [i].length (nats [i]) := row_mk (Blk.new w _ _) (Nat.le_refl _) (Nat.le_refl _) (by simp [maxLen]) rfl rfl
  have W1 := hide (walk_ok (hT.fr0 hf1) (h.fr0 hf1) (Nat.le_trans hB hf1.size) hrow hf1.size (fun b hb hm => by
    obtain rfl : w.heap.size = b := by simpa [Value.ownBlock] using hb
    have := (h.lt _ hm).1
    omega) x ⟨0, i, rfl, rfl, hx⟩ _ (andn_lt (y := 4294967295 - y) hx1) false (by omega) (by simp))
  have H := hide (And.intro h (And.intro hB (And.intro hT (And.intro hTB (And.intro (andn_lt (y := 4294967295 - x) hy1) (At_runs false (bitsOf (x &&& (4294967295 - y))) (ms, x, [i]) ⟨0, i, rfl, rfl, hx⟩))))))
  have hlen := runs_len false (bitsOf (x &&& (4294967295 - y))) (ms, x, [i])
  have hb1 := bitsOf_len (x &&& (4294967295 - y))
  unfold wayP
  generalize hs : runs false (ms, x, [i]) (bitsOf (x &&& (4294967295 - y))) = s at *
  clear h hx hy hx1 hy1 hx32 hy32 hT hTB hf1 hrow hs hB
  go_enter Tryd.func15, Tryd.ntmps15
  go_wp2_with fail
  refine M1.out.mono ?_
  rintro e w' ⟨rfl, rfl⟩
  go_wp2_with fail
  refine M2.out.mono ?_
  rintro e w' ⟨rfl, rfl⟩
  go_wp2_with fail
  refine W1.out.mono ?_
  rintro e w2 ⟨v, S2, rfl, hr, hA, hf, hnew, hown, hdis⟩
  have W2 := hide (And.intro hr (And.intro hA (And.intro hf (And.intro hnew (And.intro hown hdis)))))
  clear hr hA hf hnew hown hdis
  go_wp2_with fail
  have hfw : Fr S w w2 := ((Fr.refl S w).alloc _).step W2.out.2.2.1 fun b hb => by
    rcases List.mem_append.1 hb with hb | hb
    · exact .inl hb
    · simp [Value.ownBlock] at hb; exact .inr (by omega)
  have hbel : Below B w w2 := hfw.below (fun b hb => (H.out.1.lt b hb).2) H.out.2.1
  have hnew2 : ∀ b ∈ S2, b ∈ S ∨ w.heap.size ≤ b := fun b hb => (W2.out.2.2.2.1 b hb).imp_right fun h => by simp at h; omega
  have W3 := hide (walk_ok (H.out.2.2.1.below H.out.2.2.2.1 hbel) W2.out.2.1 (Nat.le_trans H.out.2.1 hfw.size) W2.out.1 hfw.size W2.out.2.2.2.2.2 s.2.1 H.out.2.2.2.2.2 _ H.out.2.2.2.2.1 true (by simp at hlen; omega) (by simp at hlen; omega))
  have HF := hide (And.intro hfw hnew2)
  have vown := hide W2.out.2.2.2.2.1
  clear hfw hbel hnew2 W2
  refine W3.out.mono ?_
  rintro e w3 ⟨v3, S3, rfl, hr, hA, hf, hnew, hown, hdis⟩
  have W4 := hide (And.intro hr (And.intro hA (And.intro hf (And.intro hnew hdis))))
  clear hr hA hf hnew hown hdis
  go_wp2_with fail
  go_ret2
  have hsz := HF.out.1.size
  refine ⟨v3, S3, rfl, W4.out.1, W4.out.2.1, ⟨HF.out.1.step W4.out.2.2.1 fun b hb => ?_, fun b hb => ?_⟩, W4.out.2.2.2.2⟩
  · rcases List.mem_append.1 hb with hb | hb
    · exact HF.out.2 b hb
    · rcases vown.out b (by simpa using hb) with h | h
      · simp [Value.ownBlock] at h; exact .inr (by omega)
      · simp at h; exact .inr (by omega)
  · exact (W4.out.2.2.2.1 b hb).elim (HF.out.2 b) fun h => .inr (by omega)
/-! ### Way's errors -/
theorem way_err1 {K : List Nat} {B B' : Nat} {w : World} {ad : Nat → Addr} (hs : Sents K B' w ad) (hK : 7 ∈ K) {g cn : Nat} {ms S : List Nat} (h : AtlR B w g cn ms S) (i j : Int) (hi : i < 0 ∨ (ms.length : Int) ≤ i) (hl : ms.length ≤ 1000000) :
    Calls Tryd.prog 15 #[.pointer (some ⟨g, 0, none⟩), .int .i64 i, .int .i64 j] w fun e w' => ∃ v, e = .returned (.tuple #[.slice none 0 0, v]) ∧ NewErr w w' ad v 7 ∧ Fr [] w w' := by
  have H := hide (mask_none hs hK h i hi hl)
  clear hs h hi
  go_enter Tryd.func15, Tryd.ntmps15
  go_wp2_with fail
  refine H.out.mono ?_
  rintro e w' ⟨v, rfl, hn, hf⟩
  obtain ⟨t, a, rfl⟩ := hn.form
  have Hn := hide (And.intro hn hf)
  clear hn hf
  go_wp2_with fail
  go_ret2
  exact ⟨_, rfl, Hn.out.1, Hn.out.2⟩
theorem way_err2 {K : List Nat} {B B' : Nat} {w : World} {ad : Nat → Addr} (hs : Sents K B' w ad) (hK : 7 ∈ K) {g cn : Nat} {ms S : List Nat} (h : AtlR B w g cn ms S) {i x : Nat} (hx : ms[i]? = some x) (j : Int) (hj : j < 0 ∨ (ms.length : Int) ≤ j) (hl : ms.length ≤ 1000000) :
    Calls Tryd.prog 15 #[.pointer (some ⟨g, 0, none⟩), .int .i64 i, .int .i64 j] w fun e w' => ∃ v, e = .returned (.tuple #[.slice none 0 0, v]) ∧ NewErr w w' ad v 7 ∧ Fr [] w w' := by
  have H := hide (mask_none hs hK h j hj hl)
  have M1 := hide (mask_ok h hx hl)
  clear hs h hj hx
  go_enter Tryd.func15, Tryd.ntmps15
  go_wp2_with fail
  refine M1.out.mono ?_
  rintro e w' ⟨rfl, rfl⟩
  go_wp2_with fail
  refine H.out.mono ?_
  rintro e w' ⟨v, rfl, hn, hf⟩
  obtain ⟨t, a, rfl⟩ := hn.form
  have Hn := hide (And.intro hn hf)
  clear hn hf
  go_wp2_with fail
  go_ret2
  exact ⟨_, rfl, Hn.out.1, Hn.out.2⟩
theorem way_nil {K : List Nat} {B' : Nat} {w : World} {ad : Nat → Addr} (hs : Sents K B' w ad) (hK : 2 ∈ K) (i j : Int) :
    Calls Tryd.prog 15 #[.pointer none, .int .i64 i, .int .i64 j] w fun e w' => ∃ v, e = .returned (.tuple #[.slice none 0 0, v]) ∧ NewErr w w' ad v 2 ∧ Fr [] w w' := by
  have H := hide (mask_nil hs hK i)
  clear hs
  go_enter Tryd.func15, Tryd.ntmps15
  go_wp2_with fail
  refine H.out.mono ?_
  rintro e w' ⟨v, rfl, hn, hf⟩
  obtain ⟨t, a, rfl⟩ := hn.form
  have Hn := hide (And.intro hn hf)
  clear hn hf
  go_wp2_with fail
  go_ret2
  exact ⟨_, rfl, Hn.out.1, Hn.out.2⟩
end Go.Proofs.YtclmmfkbkaldlaaDoor

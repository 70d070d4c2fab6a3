/- Since of package column, by contracts. -/
import Derived.Test.YtgifeligogjfiaaDoorColErr
import Derived.Test.YtgifeligogjfiaaDoorSame
namespace Go.Proofs.YtgifeligogjfiaaDoor
open Go.RowKit

/-- the first n rows whose tick is at least f -/
def sinceN (ps : List Pt) (f : Int) (n : Nat) : List Int := ((List.range n).filter fun i => decide (f ≤ (ps.map (·.t)).getD i 0)).map fun (i : Nat) => (i : Int)
def sinceL (ps : List Pt) (f : Int) : List Int := sinceN ps f ps.length
theorem since_snoc {ps : List Pt} {n : Nat} {p : Pt} (hp : ps[n]? = some p) (f : Int) : sinceN ps f (n + 1) = sinceN ps f n ++ if f ≤ p.t then [(n : Int)] else [] := by
  have e : (ps.map (·.t)).getD n 0 = p.t := by simp [List.getD, hp]
  unfold sinceN
  rw [List.range_succ, List.filter_append, List.map_append]
  congr 1
  simp only [List.filter_cons, List.filter_nil, e]
  by_cases h : f ≤ p.t <;> simp [h]
theorem since_le (ps : List Pt) (f : Int) (n : Nat) : (sinceN ps f n).length ≤ n := by
  unfold sinceN
  rw [List.length_map]
  exact Nat.le_trans (List.length_filter_le _ _) (by simp)

theorem Since_nil (w : World) (f : Int) : Calls Tryd.prog 14 #[.pointer none, .int .i64 f] w fun e w' => e = .returned (.slice none 0 0) ∧ w = w' := by
  go_enter Tryd.func14, Tryd.ntmps14
  go_wp2
  go_ret
  exact ⟨rfl, rfl⟩

set_option maxRecDepth 100000 in
set_option maxHeartbeats 2000000 in
theorem Since_ok {B : Nat} {w : World} {g : Nat} {comp : Int} {k : Nat} {ps : List Pt} {S : List Nat} (h : ColR B w g comp k ps S) (hl : ps.length ≤ 1000000) (f : Int) :
    Calls Tryd.prog 14 #[.pointer (some ⟨g, 0, none⟩), .int .i64 f] w fun e w' => ∃ v, e = .returned v ∧ w'.ownsRow w.heap.size 3 1 v (sinceL ps f).length (ints (sinceL ps f)) ∧ Fr [] w w' := by
  obtain ⟨vc, vt, hB, hg, -, ht, -, -, -⟩ := h
  have lg := hg.lt
  obtain ⟨i0, hi0, hz0, hz1, hz2⟩ := info_parts infoInt
  rcases row_form ht with ⟨rfl, h0, hn0⟩ | ⟨gt, ct, rfl, hBt, lt_, hct, hmt⟩
  · have c3 := hg.at_ 3 (v := .slice none 0 0) (by rfl)
    have hps : ps = [] := by simpa [ticksOf] using hn0
    subst hps
    clear hg ht
    go_enter Tryd.func14, Tryd.ntmps14
    go_wp2_with fail
    go_loopw [4, 14] (fun s4 s wr => s4 = .slice none 0 0 ∧ s = .int .i64 0 ∧ w = wr) (fun _ _ _ => 0)
    case atStart => exact ⟨rfl, rfl, rfl⟩
    case round =>
      obtain ⟨rfl, rfl, rfl⟩ := hrel
      go_wp2_with fail
      go_ret
      exact ⟨_, rfl, by simpa [sinceL, sinceN, ints] using World.ownsRow_nil _ _ _ _, Fr.refl _ _⟩
  · have c3 := hg.at_ 3 (v := .slice (some ⟨gt, 0, none⟩) ps.length ct) (by rfl)
    have Ht := hide ht
    clear hg ht hct hmt
    go_enter Tryd.func14, Tryd.ntmps14
    go_wp2_with fail
    go_loopw [4, 14] (fun s4 s wr => ∃ k : Nat, k ≤ ps.length ∧ s = .int .i64 k ∧ wr.ownsRow w.heap.size 3 1 s4 (sinceN ps f k).length (ints (sinceN ps f k)) ∧ Fr [] w wr) (fun _ s _ => ps.length - (intOf s).toNat)
    case atStart => exact ⟨0, by omega, rfl, by simpa [sinceN, ints] using World.ownsRow_nil _ _ _ _, Fr.refl _ _⟩
    case round =>
      obtain ⟨k, hk, rfl, hr, hf⟩ := hrel
      by_cases hlt : k < ps.length
      · have hx : ps[k]? = some ps[k] := by simp [hlt]
        have d0 := row_cell (row_fr Ht.out hf (by simp)) (i := k) (u := .int .i64 ps[k].t) (ticks_get hx)
        have hsn := since_snoc hx f
        have hle := since_le ps f k
        generalize ps[k] = p at *
        have hsz := hf.size
        by_cases hb : f ≤ p.t
        · rw [if_pos hb] at hsn
          have Hall := hide (And.intro hr (And.intro hf hsn))
          clear hr hf hsn hx
          go_wp2_with (at_builtin; refine wpList_append_lies _ rfl _ _ _ rfl w.heap.size 3 i0 _ 1 8 Tryd.underlying22 hi0 hz0 hz1 hz2 rfl (by omega) (u4) ((sinceN ps f k).length) (ints (sinceN ps f k)) rfl ((Hall.out.1.alloc _)) ⟨wr.heap.size, 0, none⟩ 1 1 [.int .i64 k] rfl rfl (World.news_of_block (cs := #[.int .i64 k]) (t := 3) (fr := (0, 0)) (Blk.new_at _ _ _ _ (by simp))) (by simp [Value.oneCell']) (by omega) (by unfold maxLen; omega) (by omega) (by simp; omega) (wr.heap.size + 1) (by simp) ?_; intro gg cap w3 hown3 hgrow hat hlt3)
          obtain ⟨hr, hf, hsn⟩ := Hall.out
          go_roundw
          case rel =>
            refine ⟨k + 1, by omega, by go_num, ?_, (hf.alloc _).grown hgrow (fun b hb => .inr (row_lt hr hb).2)⟩
            rw [hsn, List.length_append, List.length_singleton]
            have e : ints (sinceN ps f k ++ [(k : Int)]) = ints (sinceN ps f k) ++ [.int .i64 k] := by simp [ints]
            rw [e]
            exact hown3
          case measure => simp [intOf]; omega
        · rw [if_neg hb, List.append_nil] at hsn
          have Hall := hide (And.intro hr (And.intro hf hsn))
          clear hr hf hsn hx
          go_wp2_with fail
          obtain ⟨hr, hf, hsn⟩ := Hall.out
          go_roundw
          case rel => exact ⟨k + 1, by omega, by go_num, by rw [hsn]; exact hr, hf⟩
          case measure => simp [intOf]; omega
      · have hkn : k = ps.length := by omega
        subst hkn
        have Hall := hide (And.intro hr hf)
        clear hr hf
        go_wp2_with fail
        go_ret
        exact ⟨_, rfl, Hall.out.1, Hall.out.2⟩
end Go.Proofs.YtgifeligogjfiaaDoor

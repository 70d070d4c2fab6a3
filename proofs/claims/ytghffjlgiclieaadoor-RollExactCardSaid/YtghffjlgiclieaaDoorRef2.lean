/- Package pasodobleref06 by contracts: New. -/
import Derived.Test.YtghffjlgiclieaaDoorRef
import Derived.RegionTactic
namespace Go.Proofs.YtghffjlgiclieaaDoor
open Go.RowKit

theorem rnew_nil (w : World) (n : Int) (hn : n < 0 ∨ 64 < n) : Calls Tryd.prog 14 #[.int .i64 n] w fun e w' => e = .returned (.pointer none) ∧ Fr [] w w' := by
  by_cases h : n < 0
  · go_enter Tryd.func14, Tryd.ntmps14
    go_wp2
    go_ret
    exact ⟨rfl, Fr.refl _ _⟩
  · have h2 : 64 < n := by omega
    go_enter Tryd.func14, Tryd.ntmps14
    go_wp2
    go_ret
    exact ⟨rfl, Fr.refl _ _⟩

def downTo (n k : Nat) : List Nat := (List.range k).map fun j => n - 1 - j
theorem downTo_succ (n k : Nat) : downTo n (k + 1) = downTo n k ++ [n - 1 - k] := by simp [downTo, List.range_succ]
theorem downTo_all (n : Nat) : downTo n n = (List.range n).reverse := by
  apply List.ext_getElem?
  intro i
  unfold downTo
  by_cases hi : i < n
  · rw [List.getElem?_map, List.getElem?_range hi, List.getElem?_reverse (by simpa using hi), List.length_range, List.getElem?_range (by omega)]
    rfl
  · rw [List.getElem?_eq_none (by simp; omega), List.getElem?_eq_none (by simp; omega)]

theorem row_madeI {w : World} {B : Nat} {e : TypeId} {v : Value} {n : Nat} (hB : B ≤ w.heap.size) (hm : n ≤ maxLen) : (w.alloc (.cells (madeCells #[v] n) e)).ownsRow B e 1 (.slice (some ⟨w.heap.size, 0, none⟩) n n) n (List.replicate n v) := by
  have h := row_made (w := w) (B := B) (e := e) (z := #[v]) (n := n) hB (by simp) hm
  have e1 : (List.replicate n ()).flatMap (fun _ => (#[v] : Array Value).toList) = List.replicate n v := by
    rw [flat_one (List.replicate n ()) (fun _ => v), List.map_replicate]
  rw [e1] at h
  simpa using h
theorem gens_rep (n : Nat) : gensOf (List.replicate n (0, false)) = List.replicate n (.int .i64 0) := by simp [gensOf]
theorem is_rep (n : Nat) : isOf (List.replicate n (0, false)) = List.replicate n (.bool false) := by simp [isOf]

set_option maxRecDepth 100000 in
set_option maxHeartbeats 4000000 in
theorem rnew_ok {B : Nat} {w : World} (hB : B ≤ w.heap.size) (n : Nat) (hn : n ≤ 64) :
    Calls Tryd.prog 14 #[.int .i64 n] w fun e w' => ∃ g S, e = .returned (.pointer (some ⟨g, 0, none⟩)) ∧ RefR B w' g (List.replicate n (0, false)) (List.range n).reverse S ∧ Fr [] w w' ∧ ∀ b ∈ S, w.heap.size ≤ b := by
  obtain ⟨i0, hi0, hz0, hz1, hz2⟩ := info_parts infoInt
  obtain ⟨j0, hj0, jz0, jz1, jz2⟩ := info_parts infoBool
  have hmk := fun W => run_make_rowN (P := Tryd.prog) 54 3 i0 (.int .i64 0) Tryd.underlying54 hi0 hz0 .i64 .i64 n n (Nat.le_refl _) (by rw [hz2]; omega) (by omega) W
  have hmb := fun W => run_make_rowN (P := Tryd.prog) 42 4 j0 (.bool false) Tryd.underlying42 hj0 jz0 .i64 .i64 n n (Nat.le_refl _) (by rw [jz2]; omega) (by omega) W
  rw [hz1] at hmk
  rw [jz1] at hmb
  have h0 : (0 : Int) ≤ (n : Int) := by omega
  have h1 : (n : Int) ≤ 64 := by omega
  go_enter Tryd.func14, Tryd.ntmps14
  go_wp2_with fail
  go_region
  all_goals
    go_wp2_with fail
    generalize hW : World.drew _ = W3
    have H3 : Hid (∃ ga gb, Blk W3 (w.heap.size + 1 + 1) 62 #[.slice (some ⟨ga, 0, none⟩) n n, .slice (some ⟨gb, 0, none⟩) n n, .slice none 0 0] ∧ W3.ownsRow B 3 1 (.slice (some ⟨ga, 0, none⟩) n n) n (gensOf (List.replicate n (0, false))) ∧
        W3.ownsRow B 4 1 (.slice (some ⟨gb, 0, none⟩) n n) n (isOf (List.replicate n (0, false))) ∧ Fr [] w W3 ∧ w.heap.size ≤ ga ∧ w.heap.size ≤ gb ∧ ga ≠ w.heap.size + 1 + 1 ∧ gb ≠ w.heap.size + 1 + 1) := hide (by
      rw [gens_rep, is_rep, ← hW]
      have hm : n ≤ maxLen := by unfold maxLen; omega
      first
        | (have qa := row_madeI (w := w) (B := B) (e := 3) (v := .int .i64 0) (n := n) hB hm
           have qb := row_madeI (w := w.alloc (.cells (madeCells #[.int .i64 0] n) 3)) (B := B) (e := 4) (v := .bool false) (n := n) (by simp; omega) hm
           rw [show (w.alloc (.cells (madeCells #[.int .i64 0] n) 3)).heap.size = w.heap.size + 1 from by simp] at qb
           exact ⟨w.heap.size, w.heap.size + 1, (Blk.new_at _ _ _ _ (by simp)).drew, ((qa.alloc _).alloc _).drew, (qb.alloc _).drew, ((((Fr.refl [] w).alloc _).alloc _).alloc _).drew, by omega, by omega, by omega, by omega⟩)
        | (have qb := row_madeI (w := w) (B := B) (e := 4) (v := .bool false) (n := n) hB hm
           have qa := row_madeI (w := w.alloc (.cells (madeCells #[.bool false] n) 4)) (B := B) (e := 3) (v := .int .i64 0) (n := n) (by simp; omega) hm
           rw [show (w.alloc (.cells (madeCells #[.bool false] n) 4)).heap.size = w.heap.size + 1 from by simp] at qa
           exact ⟨w.heap.size + 1, w.heap.size, (Blk.new_at _ _ _ _ (by simp)).drew, (qa.alloc _).drew, ((qb.alloc _).alloc _).drew, ((((Fr.refl [] w).alloc _).alloc _).alloc _).drew, by omega, by omega, by omega, by omega⟩))
    obtain ⟨ga, gb, h3⟩ := H3.out
    have H4 := hide h3
    clear h3 H3 hW hmk hmb
    generalize hgr : w.heap.size + 1 + 1 = gr at *
    have hgr' : w.heap.size ≤ gr := by omega
    clear hgr
    go_loopw [4] (fun s wr => ∃ (k : Nat) (vf : Value), k ≤ n ∧ s = .int .i64 ((n : Int) - 1 - k) ∧ Blk wr gr 62 #[.slice (some ⟨ga, 0, none⟩) n n, .slice (some ⟨gb, 0, none⟩) n n, vf] ∧ wr.ownsRow B 3 1 (.slice (some ⟨ga, 0, none⟩) n n) n (gensOf (List.replicate n (0, false))) ∧
        wr.ownsRow B 4 1 (.slice (some ⟨gb, 0, none⟩) n n) n (isOf (List.replicate n (0, false))) ∧ wr.ownsRow B 3 1 vf k (encN (downTo n k)) ∧ Fr [] w wr ∧ (∀ b, vf.ownBlock = some b → w.heap.size ≤ b ∧ b ≠ ga)) (fun s _ => (intOf s + 1).toNat)
    case atStart =>
      obtain ⟨hg, h1, h2, hf, _, _, _, _⟩ := H4.out
      exact ⟨0, .slice none 0 0, by omega, by simp, hg, h1, h2, World.ownsRow_nil _ _ _ _, hf, fun b hb => by simp [Value.ownBlock] at hb⟩
    case round =>
      obtain ⟨k, vf, hk, rfl, hg, hr1, hr2, hr3, hf, hv⟩ := hrel
      have c2 := hg.at_ 2 (v := vf) (by rfl)
      have lg := hg.lt
      have hga := H4.out.2.2.2.2
      by_cases hlt : k < n
      · have Hall := hide (And.intro hg (And.intro hr1 (And.intro hr2 (And.intro hr3 (And.intro hf hv)))))
        have m1 : vf.ownBlock ≠ some gr := row_blk_ne hr3 hg (by decide)
        have m2 : vf.ownBlock ≠ some gb := fun e => row_row_ne hr3 hr2 (by decide) _ e rfl
        have M := hide (And.intro m1 m2)
        obtain ⟨j, hj⟩ : ∃ j : Nat, (j : Int) = (n : Int) - 1 - k := ⟨n - 1 - k, by omega⟩
        have hjn : j = n - 1 - k := by omega
        have j0 : (0 : Int) ≤ (j : Int) := by omega
        have j1 : (j : Int) ≤ 64 := by omega
        rw [← hj]
        have Hj := hide (And.intro hj hjn)
        have hsz := hf.size
        have lga : ga < wr.heap.size := (row_lt hr1 rfl).1
        clear hg hr1 hr2 hr3 hf hv m1 m2 hj hjn hga
        go_wp2_with (at_builtin; refine wpList_append_lies _ rfl _ _ _ rfl B 3 i0 _ 1 8 Tryd.underlying54 hi0 hz0 hz1 hz2 rfl (by omega) vf k (encN (downTo n k)) rfl (Hall.out.2.2.2.1.alloc _) ⟨wr.heap.size, 0, none⟩ 1 1 [.int .i64 j] rfl rfl (World.news_of_block (cs := #[.int .i64 j]) (t := 3) (fr := (0, 0)) (heap_alloc_new wr _)) (by simp [Value.oneCell']) (by omega) (by unfold maxLen; omega) (by omega) (by simp; omega) (wr.heap.size + 1) (by simp) ?_; intro gg cap w3 hown3 hgrow hat hlt3; have hg3 := hide ((Hall.out.1.alloc (.cells #[.int .i64 j] 3)).grown hgrow (Ne.symm M.out.1)); have hc3 := hg3.out.at_ 2 (v := vf) (by rfl); have fg3 := hg3.out.frozen 2)
        obtain ⟨hg, hr1, hr2, hr3, hf, hv⟩ := Hall.out
        obtain ⟨hj, hjn⟩ := Hj.out
        have hgg : gg ≠ gr := by
          rintro rfl
          rcases hat with hat | hat
          · exact M.out.1 hat
          · omega
        have hga : w.heap.size ≤ gg ∧ gg ≠ ga := by
          rcases hat with hat | hat
          · exact hv _ hat
          · exact ⟨by omega, by omega⟩
        have hgw : Fr vf.ownBlock.toList (wr.alloc (.cells #[.int .i64 j] 3)) w3 := Fr.of_grown (S := vf.ownBlock.toList) hgrow (fun x hx => .inl (by simp [hx]))
        have hp1 := row_fr (hr1.alloc (.cells #[.int .i64 j] 3)) hgw (by
          intro x hx hm
          have hx' : ga = x := by simpa [Value.ownBlock] using hx
          subst hx'
          exact (hv _ (by simpa using hm)).2 rfl)
        have hp2 := row_fr (hr2.alloc (.cells #[.int .i64 j] 3)) hgw (by
          intro x hx hm
          have hx' : gb = x := by simpa [Value.ownBlock] using hx
          subst hx'
          exact M.out.2 (by simpa using hm))
        go_roundw
        case rel =>
          refine ⟨k + 1, .slice (some ⟨gg, 0, none⟩) (k + 1) cap, by omega, int_eq (by omega), ?_, ?_, ?_, ?_, ?_, ?_⟩
          · simpa using hg3.out.set_ 2 (.slice (some ⟨gg, 0, none⟩) (k + 1) cap)
          · exact row_far hp1 (p := ⟨gr, 2, none⟩) (by simp [Value.ownBlock]; exact H4.out.2.2.2.2.2.2.1) _
          · exact row_far hp2 (p := ⟨gr, 2, none⟩) (by simp [Value.ownBlock]; exact H4.out.2.2.2.2.2.2.2) _
          · have := row_far hown3 (p := ⟨gr, 2, none⟩) (by simp [Value.ownBlock, hgg]) (.slice (some ⟨gg, 0, none⟩) (k + 1) cap)
            rw [downTo_succ, ← hjn]
            simpa [encN] using this
          · exact ((hf.alloc _).grown hgrow (fun x hx => .inr (hv x hx).1)).setCell (p := ⟨gr, 2, none⟩) (.inr hgr') _
          · intro b hb
            have : gg = b := by simpa [Value.ownBlock] using hb
            subst this
            exact hga
        case measure => first | (simp [intOf]; done) | (simp [intOf]; omega)
      · obtain rfl : k = n := by omega
        have hs : ((k : Int) - 1 - k) = -1 := by omega
        rw [hs]
        have m1 : ∀ b, (Value.slice (some ⟨ga, 0, none⟩) k k).ownBlock = some b → vf.ownBlock ≠ some b := by
          intro b hb
          have hb' : ga = b := by simpa [Value.ownBlock] using hb
          subst hb'
          exact fun e => (hv _ e).2 rfl
        have hnew : ∀ b ∈ gr :: ((Value.slice (some ⟨ga, 0, none⟩) k k).ownBlock.toList ++ ((Value.slice (some ⟨gb, 0, none⟩) k k).ownBlock.toList ++ vf.ownBlock.toList)), w.heap.size ≤ b := by
          intro b hb
          simp only [List.mem_cons, List.mem_append, Option.mem_toList, Value.ownBlock, Option.map_some, Option.some.injEq] at hb
          rcases hb with rfl | rfl | rfl | hb
          · exact hgr'
          · exact hga.1
          · exact hga.2.1
          · exact (hv b hb).1
        rw [downTo_all] at hr3
        have Hall := hide (And.intro hg (And.intro hr1 (And.intro hr2 (And.intro hr3 (And.intro hf (And.intro m1 hnew))))))
        clear hg hr1 hr2 hr3 hf hv m1 hnew hs
        go_wp2_with fail
        go_ret
        obtain ⟨hg, hr1, hr2, hr3, hf, m1, hnew⟩ := Hall.out
        exact ⟨gr, _, rfl, ⟨_, _, vf, by omega, hg, by simpa using hr1, by simpa using hr2, by simpa using hr3, m1, rfl⟩, hf, hnew⟩
end Go.Proofs.YtghffjlgiclieaaDoor

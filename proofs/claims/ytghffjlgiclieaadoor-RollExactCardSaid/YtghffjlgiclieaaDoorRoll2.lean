/- Package roll by contracts, continued: New, List, a nil roll. -/
import Derived.Test.YtghffjlgiclieaaDoorRoll
import Derived.Test.YtghffjlgiclieaaDoorRev
namespace Go.Proofs.YtghffjlgiclieaaDoor
open Go.RowKit

theorem infoPlace : (Tryd.prog.info? 60).map (fun i => (i.zero, i.size, i.bytes)) = some (some (.agg #[.int .i64 0, .bool false]), 2, 16) := by kernel_rfl

theorem flat_rep {α : Type} (n : Nat) (l : List Value) (f : α → List Value) (x : α) (h : f x = l) : (List.replicate n ()).flatMap (fun _ => l) = (List.replicate n x).flatMap f := by
  induction n with
  | zero => rfl
  | succ n ih => rw [List.replicate_succ, List.replicate_succ, List.flatMap_cons, List.flatMap_cons, ih, h]

set_option maxRecDepth 100000 in
set_option maxHeartbeats 4000000 in
theorem new_ok {B : Nat} {w : World} (hB : B ≤ w.heap.size) (n : Nat) (hn : n ≤ 64) :
    Calls Tryd.prog 7 #[.int .i64 n] w fun e w' => ∃ g S, e = .returned (.tuple #[.pointer (some ⟨g, 0, none⟩), .nilIface]) ∧ RollR B w' g (List.replicate n (0, false)) (List.range n).reverse S ∧ Fr [] w w' ∧ ∀ b ∈ S, w.heap.size ≤ b := by
  obtain ⟨i0, hi0, hz0, hz1, hz2⟩ := info_parts infoInt
  obtain ⟨j0, hj0, jz0, jz1, jz2⟩ := info_parts infoPlace
  have hmk := fun W => run_make_rowN (P := Tryd.prog) 53 60 j0 (.agg #[.int .i64 0, .bool false]) Tryd.underlying53 hj0 jz0 .i64 .i64 n n (Nat.le_refl _) (by rw [jz2]; omega) (by omega) W
  rw [jz1] at hmk
  have h0 : (0 : Int) ≤ (n : Int) := by omega
  have h1 : (n : Int) ≤ 64 := by omega
  go_enter Tryd.func7, Tryd.ntmps7
  go_wp2_with fail
  generalize hW : World.alloc (World.alloc w _) _ = W2
  have hp0 := row_made (w := w) (B := B) (e := 60) (z := #[.int .i64 0, .bool false]) (n := n) hB (by decide) (by unfold maxLen; omega)
  rw [show (#[Value.int .i64 0, .bool false] : Array Value).size = 2 from rfl, flat_rep n (#[Value.int .i64 0, Value.bool false] : Array Value).toList encPl (0, false) rfl] at hp0
  have hp2 : W2.ownsRow B 60 2 (.slice (some ⟨w.heap.size, 0, none⟩) n n) n ((List.replicate n (0, false)).flatMap encPl) := by rw [← hW]; exact hp0.alloc _
  have hg2 : Blk W2 (w.heap.size + 1) 56 #[.slice (some ⟨w.heap.size, 0, none⟩) n n, .slice none 0 0] := by rw [← hW]; exact Blk.new_at _ _ _ _ (by simp)
  have hf2 : Fr [] w W2 := by rw [← hW]; exact ((Fr.refl [] w).alloc _).alloc _
  have hz2' : w.heap.size + 1 < W2.heap.size := hg2.lt
  have H2 := hide (And.intro hp2 (And.intro hg2 hf2))
  clear hp0 hp2 hg2 hf2 hW hmk
  go_loopw [19] (fun s wr => ∃ (k : Nat) (vr : Value), k ≤ n ∧ s = .int .i64 k ∧ Blk wr (w.heap.size + 1) 56 #[.slice (some ⟨w.heap.size, 0, none⟩) n n, vr] ∧ wr.ownsRow B 60 2 (.slice (some ⟨w.heap.size, 0, none⟩) n n) n ((List.replicate n (0, false)).flatMap encPl) ∧
      wr.ownsRow B 3 1 vr k (encN (List.range k)) ∧ Fr [] w wr ∧ (∀ b, vr.ownBlock = some b → w.heap.size ≤ b)) (fun s _ => n - (intOf s).toNat)
  case atStart =>
    obtain ⟨hp2, hg2, hf2⟩ := H2.out
    exact ⟨0, .slice none 0 0, by omega, rfl, hg2, hp2, World.ownsRow_nil _ _ _ _, hf2, fun b hb => by simp [Value.ownBlock] at hb⟩
  case round =>
    obtain ⟨k, vr, hk, rfl, hg, hp, hr, hf, hv⟩ := hrel
    have c1 := hg.at_ 1 (v := vr) (by rfl)
    have lg := hg.lt
    by_cases hlt : k < n
    · have Hall := hide (And.intro hg (And.intro hp (And.intro hr (And.intro hf hv))))
      have m2 : vr.ownBlock ≠ some (w.heap.size + 1) := row_blk_ne hr hg (by decide)
      have m1 : vr.ownBlock ≠ some w.heap.size := fun e => row_row_ne hr hp (by decide) _ e rfl
      have M := hide (And.intro m1 m2)
      clear hg hp hr hf hv m1 m2
      go_wp2_with (at_builtin; refine wpList_append_lies _ rfl _ _ _ rfl B 3 i0 _ 1 8 Tryd.underlying54 hi0 hz0 hz1 hz2 rfl (by omega) vr k (encN (List.range k)) rfl (Hall.out.2.2.1.alloc _) ⟨wr.heap.size, 0, none⟩ 1 1 [.int .i64 k] rfl rfl (World.news_of_block (cs := #[.int .i64 k]) (t := 3) (fr := (0, 0)) (heap_alloc_new wr _)) (by simp [Value.oneCell']) (by omega) (by unfold maxLen; omega) (by omega) (by have := Hall.out.2.2.2.1.size; simp; omega) (wr.heap.size + 1) (by simp) ?_; intro gg cap w3 hown3 hgrow hat hlt3; have hg3 := hide ((Hall.out.1.alloc (.cells #[.int .i64 k] 3)).grown hgrow (Ne.symm M.out.2)); have hc3 := hg3.out.at_ 1 (v := vr) (by rfl); have fg3 := hg3.out.frozen 1)
      obtain ⟨hg, hp, hr, hf, hv⟩ := Hall.out
      have hsz := hf.size
      have hgg : gg ≠ w.heap.size + 1 := by
        rintro rfl
        rcases hat with hat | hat
        · exact M.out.2 hat
        · omega
      have hge : w.heap.size ≤ gg := by
        rcases hat with hat | hat
        · exact hv _ hat
        · omega
      have hp3 := row_fr (hp.alloc (.cells #[.int .i64 k] 3)) (Fr.of_grown (S := vr.ownBlock.toList) hgrow (fun x hx => .inl (by simp [hx]))) (by
        intro x hx hm
        have hx' : w.heap.size = x := by simpa [Value.ownBlock] using hx
        subst hx'
        exact M.out.1 (by simpa using hm))
      go_roundw
      case rel =>
        refine ⟨k + 1, .slice (some ⟨gg, 0, none⟩) (k + 1) cap, by omega, by go_num, ?_, ?_, ?_, ?_, ?_⟩
        · simpa using hg3.out.set_ 1 (.slice (some ⟨gg, 0, none⟩) (k + 1) cap)
        · exact row_far hp3 (p := ⟨w.heap.size + 1, 1, none⟩) (by simp [Value.ownBlock]) _
        · have := row_far hown3 (p := ⟨w.heap.size + 1, 1, none⟩) (by simp [Value.ownBlock, hgg]) (.slice (some ⟨gg, 0, none⟩) (k + 1) cap)
          simpa [encN, List.range_succ] using this
        · exact ((hf.alloc _).grown hgrow (fun x hx => .inr (hv x hx))).setCell (p := ⟨w.heap.size + 1, 1, none⟩) (.inr (by simp)) _
        · intro b hb
          have : gg = b := by simpa [Value.ownBlock] using hb
          omega
      case measure => simp [intOf]; omega
    · have hkn : k = n := by omega
      subst hkn
      have m2 : vr.ownBlock ≠ some (w.heap.size + 1) := row_blk_ne hr hg (by decide)
      have m1 : vr.ownBlock ≠ some w.heap.size := fun e => row_row_ne hr hp (by decide) _ e rfl
      rcases row_form hr with ⟨rfl, h0k, _⟩ | ⟨gr, cr, rfl, hBr, lr, hcr, hmr⟩
      · have hk0 : k = 0 := h0k
        subst hk0
        have Hall := hide (And.intro hg (And.intro hp (And.intro hr hf)))
        clear hg hp hr hf
        go_wp2_with fail
        refine (reverse_nil _).mono ?_
        rintro e w' ⟨rfl, rfl⟩
        go_wp2_with fail
        go_ret2
        obtain ⟨hg, hp, hr, hf⟩ := Hall.out
        exact ⟨w.heap.size + 1, _, rfl, ⟨_, _, by omega, hg, by simpa using hp, hr, rfl⟩, hf, by simp [Value.ownBlock]⟩
      · have hge := hv gr rfl
        have hgr : gr ≠ w.heap.size := by simpa [Value.ownBlock] using m1
        have hgr2 : gr ≠ w.heap.size + 1 := by simpa [Value.ownBlock] using m2
        have Hrev := hide (reverse_row (B := B) (w := wr) (g := gr) (cap := cr) (zs := (List.range k).map fun (i : Nat) => (i : Int)) (by simpa [encN, Function.comp_def] using hr) (by simp; omega))
        simp only [List.length_map, List.length_range] at Hrev
        have Hall := hide (And.intro hg (And.intro hp (And.intro hr hf)))
        clear hg hp hr hf
        go_wp2_with fail
        refine Hrev.out.mono ?_
        rintro e w' ⟨rfl, hr', hf'⟩
        have Hr := hide (And.intro hr' hf')
        clear hr' hf'
        go_wp2_with fail
        go_ret2
        obtain ⟨hg, hp, hr, hf⟩ := Hall.out
        obtain ⟨hr', hf'⟩ := Hr.out
        refine ⟨w.heap.size + 1, _, rfl, ⟨_, _, by omega, hg.fr hf' (by simp; omega), by simpa using row_fr hp hf' (by simp [Value.ownBlock]; omega), ?_, rfl⟩, ?_, ?_⟩
        · simpa [encN, ← List.map_reverse, Function.comp_def] using hr'
        · exact hf.step hf' (by simp; omega)
        · simp [Value.ownBlock]; omega
end Go.Proofs.YtghffjlgiclieaaDoor

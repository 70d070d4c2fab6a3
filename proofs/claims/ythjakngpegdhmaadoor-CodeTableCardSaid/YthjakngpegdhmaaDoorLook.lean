/- what package code looks through, and what it notes: by contracts. -/
import Derived.Test.YthjakngpegdhmaaDoorDeps
import Derived.Test.YthjakngpegdhmaaDoorAll
import Derived.Test.YthjakngpegdhmaaDoorItoa
import Derived.Deep.RegionHeld3
import Derived.Deep.DrawnRows
import Derived.Deep.AppendLies
namespace Go.Proofs.YthjakngpegdhmaaDoor
open Go.RowKit Go.Deep
attribute [local go_sem ↓] Go.wp_at_zero Go.wp_at_succ

/-- the look at block g: the schema's slices (the rest of it never turns), the size, the errors -/
def LookR (B : Nat) (w : World) (g : Nat) (sc : List Value) (n : Nat) (bs : List Nat) (S : List Nat) : Prop :=
  ∃ vE, Blk w g 70 (sc ++ [.int .i64 n, vE]).toArray ∧ sc.length = 2 ∧ w.ownsRow B 39 1 vE bs.length (bvs bs) ∧ B ≤ g ∧ S = g :: vE.ownBlock.toList
theorem look_end {B : Nat} {w W w3 : World} {g gg cap n : Nat} {s0 s1 vE : Value} {bs : List Nat} {b : Nat} (hE : w.ownsRow B 39 1 vE bs.length (bvs bs)) (hB : B ≤ g) (hne : vE.ownBlock ≠ some g) (hlt : g < w.heap.size) (hf : Fr [] w W)
    (hg3 : Blk w3 g 70 ([s0, s1] ++ [Value.int .i64 n, vE]).toArray) (hown : w3.ownsRow B 39 1 (.slice (some ⟨gg, 0, none⟩) (bs.length + 1) cap) (bs.length + 1) (bvs bs ++ [bv b])) (hgrow : W.grownBy w3 vE.ownBlock)
    (hat : vE.ownBlock = some gg ∨ gg = W.heap.size) (hsz : w.heap.size ≤ W.heap.size) :
    ∃ b S', LookR B (w3.setCell ⟨g, 3, none⟩ (.slice (some ⟨gg, 0, none⟩) (bs.length + 1) cap)) g [s0, s1] n (bs ++ [b]) S' ∧ Stp (g :: vE.ownBlock.toList) S' w (w3.setCell ⟨g, 3, none⟩ (.slice (some ⟨gg, 0, none⟩) (bs.length + 1) cap)) := by
  have hgg : gg ≠ g := by
    rintro rfl
    rcases hat with hat | hat
    · exact hne hat
    · omega
  refine ⟨b, _, ⟨.slice (some ⟨gg, 0, none⟩) (bs.length + 1) cap, hg3.set_ 3 _, rfl, ?_, hB, rfl⟩, ?_, ?_⟩
  · have := row_far hown (p := ⟨g, 3, none⟩) (by simpa [Value.ownBlock] using hgg) (.slice (some ⟨gg, 0, none⟩) (bs.length + 1) cap)
    simpa [bvs] using this
  · exact (((hf.any _).grown hgrow fun k hk => .inl (by simp [hk])).setCell (p := ⟨g, 3, none⟩) (.inl (by simp)) _)
  · intro x hx
    simp [Value.ownBlock] at hx
    rcases hx with rfl | rfl
    · exact .inl (by simp)
    · exact hat.elim (fun e => .inl (by simp [e])) fun e => .inr (by omega)
theorem step_open {P : Program} {ops : Array Oper} {o : Oper} {a : Act} {w : World} {K : Act → World → Prop} {Q : Exit → Act → World → Prop} {E : Prop} (hgd : o.guard = none) (h : Oper.wp P o a w K Q) : if Region.wanted o (yielded ops a.tmps) = true then Oper.wp P o a w K Q else E := by
  have hw : Region.wanted o (yielded ops a.tmps) = true := by simp [Region.wanted, hgd]
  rw [if_pos hw]; exact h
theorem keep_fr {w w' : World} {g : Nat} {t : TypeId} {cs : Array Value} {v : Value} (h : Blk w g t cs) (i : Nat) (hv : cs[i]? = some v) (hf : Fr [] w w') : w'.cell? ⟨g, i, none⟩ = some v := (h.fr0 hf).at_ i hv
set_option maxRecDepth 100000 in
set_option maxHeartbeats 4000000 in
theorem note_calls {B : Nat} {w : World} {g : Nat} {s0 s1 : Value} {n : Nat} {bs S : List Nat} (h : LookR B w g [s0, s1] n bs S) {i : Nat} (hi : i < 100) (hl : bs.length ≤ 100000) (s : ByteArray) (t : TypeId) (a : Addr) :
    Calls Tryd.prog 29 #[.pointer (some ⟨g, 0, none⟩), .int .i64 i, .string s, .iface t (.pointer (some a))] w fun e w' => e = .returned (.tuple #[]) ∧ ∃ b S', LookR B w' g [s0, s1] n (bs ++ [b]) S' ∧ Stp S S' w w' := by
  obtain ⟨vE, hg, -, hE, hB, rfl⟩ := h
  obtain ⟨i0, hi0, hz0, hs0, hb0⟩ := info_parts infoErr
  have g2 := hg.at_ 3 (v := vE) rfl
  have lg := hg.lt
  have fg := hg.frozen 3
  have hne : vE.ownBlock ≠ some g := row_blk_ne hE hg (by decide)
  have hBw : B ≤ w.heap.size := by omega
  have HH := hide (And.intro hg (And.intro hE (And.intro hB hne)))
  have K3 : Hid (([s0, s1] ++ [Value.int .i64 n, vE]).toArray[3]? = some vE) := hide rfl
  have q1 : ∀ o1, (w.alloc o1).cell? ⟨g, 3, none⟩ = some vE := fun o1 => keep_fr HH.out.1 3 K3.out (by (repeat (first | exact Fr.refl _ _ | apply Fr.drew | apply Fr.drewN | apply Fr.alloc | (refine Fr.setCell ?_ (by first | (left; simp [Value.ownBlock]; done) | (right; simp; omega) | (right; simp; done)) _))))
  have q2 : ∀ o1 o2, ((w.alloc o1).alloc o2).cell? ⟨g, 3, none⟩ = some vE := fun o1 o2 => keep_fr HH.out.1 3 K3.out (by (repeat (first | exact Fr.refl _ _ | apply Fr.drew | apply Fr.drewN | apply Fr.alloc | (refine Fr.setCell ?_ (by first | (left; simp [Value.ownBlock]; done) | (right; simp; omega) | (right; simp; done)) _))))
  have q3 : ∀ o1 o2 o3, (((w.alloc o1).alloc o2).alloc o3).cell? ⟨g, 3, none⟩ = some vE := fun o1 o2 o3 => keep_fr HH.out.1 3 K3.out (by (repeat (first | exact Fr.refl _ _ | apply Fr.drew | apply Fr.drewN | apply Fr.alloc | (refine Fr.setCell ?_ (by first | (left; simp [Value.ownBlock]; done) | (right; simp; omega) | (right; simp; done)) _))))
  have q4 : ∀ o1 o2 o3 o4, ((((w.alloc o1).alloc o2).alloc o3).alloc o4).cell? ⟨g, 3, none⟩ = some vE := fun o1 o2 o3 o4 => keep_fr HH.out.1 3 K3.out (by (repeat (first | exact Fr.refl _ _ | apply Fr.drew | apply Fr.drewN | apply Fr.alloc | (refine Fr.setCell ?_ (by first | (left; simp [Value.ownBlock]; done) | (right; simp; omega) | (right; simp; done)) _))))
  have HI := hide (fun W => itoa_calls (w := W) hi)
  have HA := hide at_err
  clear hg hE hB hne
  go_enter Tryd.func29, Tryd.ntmps29
  go_wp2_with fail
  go_region_law (first | (refine step_open (by rfl) ?_; go_wp2_with fail; go_at_call 33; ((with_reducible refine (HI.out _).mono ?_)); rintro e w' ⟨⟨si, rfl⟩, rfl⟩; go_wp2_with fail) | (refine step_open (by rfl) ?_; go_wp2_with fail; go_at_call 21; ((with_reducible refine (HA.out _ _ _ _).mono ?_)); rintro e w' ⟨rfl, rfl⟩; go_wp2_with fail) | (refine step_append_lies _ (by rfl) _ _ _ (by rfl) B 39 i0 _ 1 16 Tryd.underlying68 hi0 hz0 hs0 hb0 rfl (by omega) vE bs.length (bvs bs) (by rfl) (row_fr HH.out.2.1 (show Fr [] w _ by (repeat (first | exact Fr.refl _ _ | apply Fr.drew | apply Fr.drewN | apply Fr.alloc | (refine Fr.setCell ?_ (by first | (left; simp [Value.ownBlock]; done) | (right; simp; omega) | (right; simp; done)) _)))) (by simp)) ⟨w.heap.size + 3, 0, none⟩ 1 1 [bv (w.heap.size + 2)] (by rfl) (by rfl) (World.news_of_block (cs := #[bv (w.heap.size + 2)]) (t := 39) (fr := (0, 0)) (Blk.new_at _ _ _ _ (by simp))) (by simp [Value.oneCell']) (by omega) (by unfold maxLen; omega) (by omega) (by simp; omega) (w.heap.size + 4) (by simp) ?_; intro gg cap w3 hown3 hgrow hat hlt; have hg3 := hide ((HH.out.1.fr0 (show Fr [] w _ by (repeat (first | exact Fr.refl _ _ | apply Fr.drew | apply Fr.drewN | apply Fr.alloc | (refine Fr.setCell ?_ (by first | (left; simp [Value.ownBlock]; done) | (right; simp; omega) | (right; simp; done)) _))))).grown hgrow (Ne.symm HH.out.2.2.2)); have fg3 := hg3.out.frozen 3; have cg3 := hg3.out.at_ 3 (v := vE) rfl; have lg3 := hg3.out.lt))
  all_goals
    have HE : Hid (∃ b S', LookR B (w3.setCell ⟨g, 3, none⟩ (.slice (some ⟨gg, 0, none⟩) (bs.length + 1) cap)) g [s0, s1] n (bs ++ [b]) S' ∧ Stp (g :: vE.ownBlock.toList) S' w (w3.setCell ⟨g, 3, none⟩ (.slice (some ⟨gg, 0, none⟩) (bs.length + 1) cap))) :=
      hide (look_end (W := _) HH.out.2.1 HH.out.2.2.1 HH.out.2.2.2 lg (by (repeat (first | exact Fr.refl _ _ | apply Fr.drew | apply Fr.drewN | apply Fr.alloc | (refine Fr.setCell ?_ (by first | (left; simp [Value.ownBlock]; done) | (right; simp; omega) | (right; simp; done)) _)))) hg3.out hown3 hgrow (by simpa using hat) (by simp; omega))
    go_wp2_with fail
    go_end0
    exact ⟨rfl, HE.out⟩
end Go.Proofs.YthjakngpegdhmaaDoor

/- Package column by contracts: Push. -/
import Derived.Test.YtgifeligogjfiaaDoorColRow
namespace Go.Proofs.YtgifeligogjfiaaDoor
open Go.RowKit

theorem box_news {w : World} {b : Nat} {p : Pt} (k : Nat) (h : Blk w b 35 (boxP p)) : ∀ j v, (cellsOf k p)[j]? = some v → w.cell? ((⟨b, 1, none⟩ : Addr).add j) = some v := by
  refine blk_news h 1 fun j v hv => ?_
  have hv : (vsOf p)[j]? = some v := by
    unfold cellsOf at hv
    rw [List.getElem?_take] at hv
    split at hv
    · exact hv
    · cases hv
  rw [show 1 + j = j + 1 from by omega]
  match j, hv with
  | 0, hv => simpa [vsOf, boxP] using hv
  | 1, hv => simpa [vsOf, boxP] using hv
  | 2, hv => simpa [vsOf, boxP] using hv
  | 3, hv => simpa [vsOf, boxP] using hv
  | j + 4, hv => simp [vsOf] at hv
theorem cells_one (k : Nat) (p : Pt) : ∀ u ∈ cellsOf k p, u.oneCell' = true := by
  intro u hu
  have := List.mem_of_mem_take hu
  simp only [vsOf, List.mem_cons, List.not_mem_nil, or_false] at this
  rcases this with rfl | rfl | rfl | rfl <;> rfl

set_option maxRecDepth 100000 in
set_option maxHeartbeats 4000000 in
theorem push_ok {B : Nat} {w : World} {g : Nat} {comp : Int} {k : Nat} {ps : List Pt} {S : List Nat} (h : ColR B w g comp k ps S) (hB : B ≤ w.heap.size) (h2 : 1 ≤ k) (h3 : k ≤ 4) (p : Pt) (hp : Fits comp k p) (hl : ps.length ≤ 1000000) :
    Calls Tryd.prog 9 #[.pointer (some ⟨g, 0, none⟩), encP p] w fun e w' => e = .returned (.tuple #[.int .i64 ps.length, .nilIface]) ∧ ∃ S', ColR B w' g comp k (ps ++ [p]) S' ∧ Stp S S' w w' := by
  have Hf := hide (fits_calls (h.alloc (.cells (boxP p) 35)) h2 h3 p)
  rw [decide_eq_true hp] at Hf
  have hsm : ps.length * k ≤ 4000000 := by
    have : k = 1 ∨ k = 2 ∨ k = 3 ∨ k = 4 := by omega
    rcases this with rfl | rfl | rfl | rfl <;> omega
  obtain ⟨vc, vt, hBg, hg, hc, ht, hd, hfit, rfl⟩ := h
  have lg := hg.lt
  obtain ⟨i0, hi0, hz0, hz1, hz2⟩ := info_parts infoInt
  have m1 : vc.ownBlock ≠ some g := row_blk_ne hc hg (by decide)
  have m2 : vt.ownBlock ≠ some g := row_blk_ne ht hg (by decide)
  have Hall := hide (And.intro hg (And.intro hc (And.intro ht (And.intro hd (And.intro hfit (And.intro m1 m2))))))
  have HP := hide hp
  have Hbox := hide (Blk.new w 35 (boxP p))
  have Hk := hide (cellsOf_len h3 p)
  clear hg hc ht hd hfit hp m1 m2
  obtain ⟨c, v0, v1, v2, v3, t⟩ := p
  simp only [encP, boxP] at Hf ⊢
  go_enter Tryd.func9, Tryd.ntmps9
  go_wp2_with fail
  refine Hf.out.mono ?_
  rintro e w1 ⟨rfl, hf⟩
  obtain ⟨hg, hc, ht, hd, hfit, m1, m2⟩ := Hall.out
  have hf0 : Fr [] w w1 := ((Fr.refl [] w).alloc _).trans hf
  have hbox := Hbox.out.fr0 hf
  have hg1 := hg.fr0 hf0
  have hc1 := row_fr hc hf0 (by simp)
  have ht1 := row_fr ht hf0 (by simp)
  have c1 := hg1.at_ 1 (v := .int .i64 k) (by rfl)
  have c2 := hg1.at_ 2 (v := vc) (by rfl)
  have fg := hg1.frozen
  have l1 := hg1.lt
  have l3 := hbox.lt
  have hB1 : B ≤ w1.heap.size := Nat.le_trans hB hf0.size
  have k0 : (0 : Int) ≤ (k : Int) := by omega
  have k4 : (k : Int) ≤ 4 := by omega
  have H1 := hide (And.intro hg1 (And.intro hc1 (And.intro ht1 (And.intro hbox hf0))))
  have M := hide (And.intro m1 (And.intro m2 hd))
  clear hg hc ht hd hfit m1 m2 hf0 hbox hg1 hc1 ht1 hf Hf
  go_wp2_with fail
  go_region_law
    ((refine step_append_lies _ (by rfl) _ _ _ (by rfl) B 3 i0 _ 1 8 Tryd.underlying22 hi0 hz0 hz1 hz2 rfl (by omega) vc (ps.length * k) (ps.flatMap (cellsOf k)) (by rfl) (row_drewN H1.out.2.1 1)
        ⟨w.heap.size, 1, none⟩ k 4 (cellsOf k ⟨c, v0, v1, v2, v3, t⟩) (by rfl) (by rw [Hk.out, Nat.mul_one]) (box_news k (H1.out.2.2.2.1)) (cells_one k _)
        (by omega) (by unfold maxLen; omega) (by omega) (by simp; omega) w1.heap.size (by simp) ?_; intro gg cap w3 hown3 hgrow hat hlt
      have hg3 := hide ((H1.out.1.drew).grown hgrow (Ne.symm M.out.1))
      have hc3 := hg3.out.at_ 3 (v := vt) (by rfl)
      have hc2 := hg3.out.at_ 2 (v := vc) (by rfl)
      have fg3 := hg3.out.frozen 2))
  all_goals
    obtain ⟨hg1, hc1, ht1, hbox, hf0⟩ := H1.out
    obtain ⟨m1, m2, hd⟩ := M.out
    have hgg : gg ≠ g := by
      rintro rfl
      rcases hat with hat | hat
      · exact m1 hat
      · omega
    have hdd : ∀ b, vt.ownBlock = some b → b ≠ gg := by
      rintro b hb rfl
      rcases hat with hat | hat
      · exact hd _ hat hb
      · have := (row_lt ht1 hb).1
        omega
    have hg4 := hg3.out.set4_2 (.slice (some ⟨gg, 0, none⟩) (ps.length * k + k) cap)
    have hc4 := row_far hown3 (p := ⟨g, 2, none⟩) (by simp [Value.ownBlock, hgg]) (.slice (some ⟨gg, 0, none⟩) (ps.length * k + k) cap)
    have ht4 := row_far (row_grown (row_drewN ht1 1) hgrow (fun b hb he => hd b he hb)) (p := ⟨g, 2, none⟩) m2 (.slice (some ⟨gg, 0, none⟩) (ps.length * k + k) cap)
    have hf4 : Fr (g :: (vc.ownBlock.toList ++ vt.ownBlock.toList)) w _ := (((hf0.any (g :: (vc.ownBlock.toList ++ vt.ownBlock.toList))).drew).grown hgrow (fun x hx => .inl (by simp [hx]))).setCell (p := ⟨g, 2, none⟩) (by simp) (.slice (some ⟨gg, 0, none⟩) (ps.length * k + k) cap)
    have hb4 := ((hbox.drew).grown hgrow (by
      intro he
      have := (row_lt hc1 he.symm).2
      have := (row_lt Hall.out.2.1 he.symm).1
      omega)).far (p := ⟨g, 2, none⟩) (by simp; omega) (.slice (some ⟨gg, 0, none⟩) (ps.length * k + k) cap)
    have hs4 : gg < (w3.setCell ⟨g, 2, none⟩ (.slice (some ⟨gg, 0, none⟩) (ps.length * k + k) cap)).heap.size := by simpa [World.setCell] using hlt
    have hB4 : B ≤ (w3.setCell ⟨g, 2, none⟩ (.slice (some ⟨gg, 0, none⟩) (ps.length * k + k) cap)).heap.size := Nat.le_trans hB hf4.size
    have hsz4 := hf4.size
    have hw1 := hf0.size
    have Hx := hide (And.intro hg4 (And.intro hc4 (And.intro ht4 (And.intro hf4 (And.intro hb4 hdd)))))
    clear hg4 hc4 ht4 hf4 hb4 hdd hg1 hc1 ht1 hbox hf0 m1 hd hown3 hgrow hg3 hc3 hc2 fg3 c1 c2 fg H1 l1 l3 hB1 hlt
    generalize World.setCell _ _ _ = w4 at Hx hs4 hB4 hsz4 ⊢
    have M2 := hide m2
    clear m2
    obtain ⟨hg4, hc4, ht4, hf4, hb4, hdd⟩ := Hx.out
    have c3 := hg4.at_ 3 (v := vt) (by rfl)
    have cb := hb4.at_ 5 (v := .int .i64 t) (by rfl)
    have l1 := hg4.lt
    have l3 := hb4.lt
    have q1 := World.new_ne w4 _ c3
    have q2 := World.new_ne w4 _ cb
    have fg := hg4.frozen
    clear hg4 hc4 ht4 hf4 hb4 hdd
    go_wp2_with fail
    go_region_law
      ((refine step_append_lies _ (by rfl) _ _ _ (by rfl) B 3 i0 _ 1 8 Tryd.underlying22 hi0 hz0 hz1 hz2 rfl (by omega) vt ps.length (ticksOf ps) (by rfl) ((Hx.out.2.2.1.alloc _).drew)
          ⟨w4.heap.size, 0, none⟩ 1 1 [.int .i64 t] (by rfl) (by rfl) (World.news_of_block (cs := #[.int .i64 t]) (t := 3) (fr := (0, 0)) (heap_alloc_new w4 _)) (by simp [Value.oneCell'])
          (by omega) (by unfold maxLen; omega) (by omega) (by simp; omega) (w4.heap.size + 1) (by simp) ?_; intro gt cap2 w5 hown5 hgrow5 hat5 hlt5
        have hg5 := hide (((Hx.out.1.alloc (.cells #[.int .i64 t] 3)).drew).grown hgrow5 (Ne.symm M2.out))
        have hc5 := hg5.out.at_ 3 (v := vt) (by rfl)
        have fg5 := hg5.out.frozen 3))
    all_goals
      go_wp2_with fail
      go_ret2
      obtain ⟨hg4, hc4, ht4, hf4, hb4, hdd⟩ := Hx.out
      have hgt : gt ≠ g := by
        rintro rfl
        rcases hat5 with hat5 | hat5
        · exact M2.out hat5
        · omega
      have hgc : gg ≠ gt := by
        rintro rfl
        rcases hat5 with hat5 | hat5
        · exact hdd _ hat5 rfl
        · omega
      have hc5' := row_grown (row_drewN (hc4.alloc (.cells #[.int .i64 t] 3)) 1) hgrow5 (fun b hb he => hdd _ he (by simpa [Value.ownBlock] using hb.symm))
      have hf5 : Fr (g :: (vc.ownBlock.toList ++ vt.ownBlock.toList)) w w5 := ((hf4.alloc (.cells #[.int .i64 t] 3)).drew).grown hgrow5 (fun x hx => .inl (by simp [hx]))
      refine ⟨by simp, g :: ([gg] ++ [gt]), ⟨.slice (some ⟨gg, 0, none⟩) (ps.length * k + k) cap, .slice (some ⟨gt, 0, none⟩) (ps.length + 1) cap2, hBg, hg5.out.set4_3 _, ?_, ?_, ?_, ?_, rfl⟩, ?_, ?_⟩
      · rw [List.length_append, List.length_singleton, Nat.add_mul, Nat.one_mul, List.flatMap_append, List.flatMap_singleton]
        exact row_far hc5' (p := ⟨g, 3, none⟩) (by simp [Value.ownBlock, hgg]) _
      · have := row_far hown5 (p := ⟨g, 3, none⟩) (by simp [Value.ownBlock, hgt]) (.slice (some ⟨gt, 0, none⟩) (ps.length + 1) cap2)
        simpa [ticksOf] using this
      · intro b hb
        have hb' : gg = b := by simpa [Value.ownBlock] using hb
        subst hb'
        simp [Value.ownBlock, Ne.symm hgc]
      · intro x hx
        rcases List.mem_append.1 hx with hx | hx
        · exact Hall.out.2.2.2.2.1 x hx
        · rw [List.mem_singleton] at hx
          subst hx
          exact HP.out
      · exact hf5.setCell (p := ⟨g, 3, none⟩) (by simp) _
      · intro x hx
        simp only [List.mem_cons, List.mem_append, List.not_mem_nil, or_false] at hx
        rcases hx with rfl | rfl | rfl
        · exact .inl (by simp)
        · rcases hat with hat | hat
          · exact .inl (by simp [hat])
          · exact .inr (by omega)
        · rcases hat5 with hat5 | hat5
          · exact .inl (by simp [hat5])
          · exact .inr (by omega)
end Go.Proofs.YtgifeligogjfiaaDoor

/- plain of the statements of layer 16: a schema of four components and two resources, by contract. -/
import Derived.Test.YthjakngpegdhmaaDoorPureCode
namespace Go.Proofs.YthjakngpegdhmaaDoor
open Go.RowKit

def encC (x : UInt8 × Int × Bool) : List Value := [.string ⟨#[x.1]⟩, .int .i64 x.2.1, .bool x.2.2, .int .i64 0, .int .i64 0, .int .i64 0, .int .i64 0]
def compL : List (UInt8 × Int × Bool) := [(97, 1, true), (98, 2, true), (99, 3, true), (100, 4, false)]
theorem infoComp : (Tryd.prog.info? 56).map (fun i => (i.zero, i.size, i.bytes)) = some (some (.agg #[.string ⟨#[]⟩, .int .i64 0, .bool false, .int .i64 0, .int .i64 0, .int .i64 0, .int .i64 0]), 7, 64) := by kernel_rfl
def PlainPost (w : World) (e : Ending) (w' : World) : Prop :=
  ∃ gc cc gr, e = .returned (.agg #[.slice (some ⟨gc, 0, none⟩) 4 cc, .slice (some ⟨gr, 0, none⟩) 2 2]) ∧ Fr [] w w' ∧ w'.ownsRow w.heap.size 56 7 (.slice (some ⟨gc, 0, none⟩) 4 cc) 4 (compL.flatMap encC)
theorem plain_sch {w : World} {B gc cc n : Nat} {cs : List (UInt8 × Int × Bool)} (h : w.ownsRow B 56 7 (.slice (some ⟨gc, 0, none⟩) n cc) n (cs.flatMap encC)) (hn : n = cs.length) (hw : gc < w.heap.size) : SchR w.heap.size w (.slice (some ⟨gc, 0, none⟩) n cc) (cs.map fun x => (x.2.1, x.2.2)) := by
  subst hn
  refine ⟨some ⟨gc, 0, none⟩, cc, by rw [List.length_map], fun k wd rb hk => ⟨gc, 0, rfl, hw, ?_, ?_⟩⟩
  all_goals
    rw [List.getElem?_map] at hk
    obtain ⟨x, hx, he⟩ := Option.map_eq_some_iff.mp hk
    obtain ⟨nm, a, b⟩ := x
    simp only [Prod.mk.injEq] at he
    obtain ⟨rfl, rfl⟩ := he
    rw [Nat.zero_add]
    refine row_cell h ?_
  · exact (flat_get (k := 7) (fun _ => rfl) hx 1 (by omega)).trans rfl
  · exact (flat_get (k := 7) (fun _ => rfl) hx 2 (by omega)).trans rfl
theorem slice_abcd {k : Nat} {a b : Int} {u : UInt8} (hk : k < 4) (ha : a = k) (hb : b = k + 1) (hu : (⟨#[97, 98, 99, 100]⟩ : ByteArray).extract k (k + 1) = ⟨#[u]⟩) (W : World) :
    (Instr.slice 9 (.string ⟨#[97, 98, 99, 100]⟩) (some (.int .i64 a)) (some (.int .i64 b)) none).run Tryd.prog W = .ok (.string ⟨#[u]⟩) W := by
  subst ha; subst hb
  rw [run_slice_string (h := Tryd.underlying9)]
  · rw [← hu]
    congr 3
  · omega
  · omega
  · exact Int.le_trans (b := ((4 : Nat) : Int)) (by omega) (Int.ofNat_le.2 (by decide))
set_option maxRecDepth 100000 in
set_option maxHeartbeats 8000000 in
theorem plain_calls {w : World} : Calls Tryd.prog 16 #[] w (PlainPost w) := by
  obtain ⟨i0, hi0, hz0, hz1, hz2⟩ := info_parts infoComp
  go_enter Tryd.func16, Tryd.ntmps16
  go_wp2_with fail
  have hR0 : (((w.alloc (.cells #[.slice none 0 0, .slice none 0 0] 44)).alloc (.cells #[.string ⟨#[115]⟩, .int .i64 0, .string ⟨#[116]⟩, .int .i64 0] 75)).alloc (.cells #[.slice none 0 0, .slice (some ⟨w.heap.size + 1, 0, none⟩) 2 2] 44)).ownsRow w.heap.size 56 7 (.slice none 0 0) 0 ((compL.take 0).flatMap encC) := World.ownsRow_nil _ _ _ _
  have hB0 : Blk (((w.alloc (.cells #[.slice none 0 0, .slice none 0 0] 44)).alloc (.cells #[.string ⟨#[115]⟩, .int .i64 0, .string ⟨#[116]⟩, .int .i64 0] 75)).alloc (.cells #[.slice none 0 0, .slice (some ⟨w.heap.size + 1, 0, none⟩) 2 2] 44)) (w.heap.size + 1 + 1) 44 #[.slice none 0 0, .slice (some ⟨w.heap.size + 1, 0, none⟩) 2 2] := Blk.new_at _ _ _ _ (by simp only [World.alloc, Array.size_push])
  have hZ0 : Blk (((w.alloc (.cells #[.slice none 0 0, .slice none 0 0] 44)).alloc (.cells #[.string ⟨#[115]⟩, .int .i64 0, .string ⟨#[116]⟩, .int .i64 0] 75)).alloc (.cells #[.slice none 0 0, .slice (some ⟨w.heap.size + 1, 0, none⟩) 2 2] 44)) w.heap.size 44 #[.slice none 0 0, .slice none 0 0] := ((Blk.new w _ _).alloc _).alloc _
  have hf0 : Fr [] w (((w.alloc (.cells #[.slice none 0 0, .slice none 0 0] 44)).alloc (.cells #[.string ⟨#[115]⟩, .int .i64 0, .string ⟨#[116]⟩, .int .i64 0] 75)).alloc (.cells #[.slice none 0 0, .slice (some ⟨w.heap.size + 1, 0, none⟩) 2 2] 44)) := (((Fr.refl _ _).alloc _).alloc _).alloc _
  have H0 := hide (And.intro hR0 (And.intro hB0 (And.intro hZ0 hf0)))
  clear hR0 hB0 hZ0 hf0
  generalize World.alloc (World.alloc (World.alloc w _) _) _ = w1 at *
  obtain ⟨g, hg⟩ : ∃ g, g = w.heap.size + 1 + 1 := ⟨_, rfl⟩
  obtain ⟨gr, hgr⟩ : ∃ gr, gr = w.heap.size + 1 := ⟨_, rfl⟩
  rw [← hg]
  rw [← hg, ← hgr] at H0
  have Hg := hide (And.intro hg hgr)
  clear hg hgr
  go_loopw [2] (fun s2 wr => ∃ (k : Nat) (vc : Value), k ≤ 4 ∧ s2 = .int .i64 k ∧ wr.ownsRow w.heap.size 56 7 vc k ((compL.take k).flatMap encC) ∧ Blk wr g 44 #[vc, .slice (some ⟨gr, 0, none⟩) 2 2] ∧ Blk wr w.heap.size 44 #[.slice none 0 0, .slice none 0 0] ∧ Fr [] w wr) (fun s2 _ => 4 - (intOf s2).toNat)
  case atStart => exact ⟨0, .slice none 0 0, by omega, rfl, H0.out⟩
  case round =>
    obtain ⟨k, vc, hk, rfl, hR, hB, hZ, hf⟩ := hrel
    clear H0
    by_cases hk4 : k = 4
    · subst hk4
      rcases row_form hR with ⟨_, h2, _⟩ | ⟨gc, cc, rfl, _, lgc, hcc, hmc⟩
      · omega
      have b0 := hB.at_ 0 (v := .slice (some ⟨gc, 0, none⟩) 4 cc) rfl
      have b1 := hB.at_ 1 (v := .slice (some ⟨gr, 0, none⟩) 2 2) rfl
      have z0 := hZ.at_ 0 (v := .slice none 0 0) rfl
      have z1 := hZ.at_ 1 (v := .slice none 0 0) rfl
      have lB := hB.lt
      have lZ := hZ.lt
      have fZ := hZ.frozen
      have q0 := (hZ.set_ 0 (.slice (some ⟨gc, 0, none⟩) 4 cc)).at_ 0 (v := .slice (some ⟨gc, 0, none⟩) 4 cc) rfl
      have q1 := ((hZ.set_ 0 (.slice (some ⟨gc, 0, none⟩) 4 cc)).set_ 1 (.slice (some ⟨gr, 0, none⟩) 2 2)).at_ 1 (v := .slice (some ⟨gr, 0, none⟩) 2 2) rfl
      have n1 : g ≠ w.heap.size := by have := Hg.out.1; omega
      have n2 := n1.symm
      have H := hide (And.intro hR (And.intro hZ hf))
      clear hR hB hZ hf hmc hcc
      go_wp2_with fail
      refine bodyPost_ret (v := .agg #[.slice (some ⟨gc, 0, none⟩) 4 cc, .slice (some ⟨gr, 0, none⟩) 2 2]) (by simp [results, Tryd.results16, go_sem, q0, q1]) rfl ?_
      obtain ⟨hR, hZ, hf⟩ := H.out
      have hne : (Value.slice (some ⟨gc, 0, none⟩) 4 cc).ownBlock ≠ some w.heap.size := row_blk_ne hR hZ (by decide)
      exact ⟨gc, cc, gr, rfl, (hf.setCell (.inr (Nat.le_refl _)) _).setCell (.inr (Nat.le_refl _)) _, row_far (row_far hR (p := ⟨w.heap.size, 0, none⟩) hne _) (p := ⟨w.heap.size, 1, none⟩) hne _⟩
    · have hvb : vc.ownBlock ≠ some g := row_blk_ne hR hB (by decide)
      have hvz : vc.ownBlock ≠ some w.heap.size := row_blk_ne hR hZ (by decide)
      have b0 := hB.at_ 0 (v := vc) rfl
      have hwr := hf.size
      have lB := hB.lt
      have fB := hB.frozen
      have ik : (k : Int) < 4 := by omega
      have H := hide (And.intro hR (And.intro hB (And.intro hZ (And.intro hf (And.intro hvb hvz)))))
      clear hR hB hZ hf hvb hvz
      obtain rfl | rfl | rfl | rfl : k = 0 ∨ k = 1 ∨ k = 2 ∨ k = 3 := by omega
      · rw [show ((0 : Nat) : Int) = 0 from rfl]
        have hsl := slice_abcd (k := 0) (a := 0) (b := IntKind.i64.wrap 1) (u := 97) (by omega) (by omega) (by decide) (by decide)
        go_wp2_with fail
        go_region_law
          ((refine step_append_lies _ (by rfl) _ _ _ (by rfl) w.heap.size 56 i0 _ 7 64 Tryd.underlying41 hi0 hz0 hz1 hz2 rfl (by omega) vc 0 ((compL.take 0).flatMap encC) (by rfl) ((H.out.1.alloc _).drew)
              ⟨wr.heap.size, 0, none⟩ 1 1 [.string ⟨#[97]⟩, .int .i64 1, .bool true, .int .i64 0, .int .i64 0, .int .i64 0, .int .i64 0] (by rfl) (by rfl) (World.news_of_block (cs := #[.string ⟨#[97]⟩, .int .i64 1, .bool true, .int .i64 0, .int .i64 0, .int .i64 0, .int .i64 0]) (t := 56) (fr := (0, 0)) (heap_alloc_new wr _)) (by simp [Value.oneCell'])
              (by omega) (by unfold maxLen; omega) (by omega) (by simp; omega) (wr.heap.size + 1) (by simp) ?_; intro gg cap w3 hown3 hgrow hat hlt
            have hg3 := hide (((H.out.2.1.alloc (.cells #[.string ⟨#[97]⟩, .int .i64 1, .bool true, .int .i64 0, .int .i64 0, .int .i64 0, .int .i64 0] 56)).drew).grown hgrow (Ne.symm H.out.2.2.2.2.1))
            have hc3 := hg3.out.at_ 0 (v := vc) (by rfl)
            have fg3 := hg3.out.frozen 0))
        all_goals
          go_wp2
          obtain ⟨hR, hB, hZ, hf, hvb, hvz⟩ := H.out
          have hgg : gg ≠ g := by
            rintro rfl
            rcases hat with hat | hat
            · exact hvb hat
            · omega
          have hZ3 := ((hZ.alloc (.cells #[.string ⟨#[97]⟩, .int .i64 1, .bool true, .int .i64 0, .int .i64 0, .int .i64 0, .int .i64 0] 56)).drew).grown hgrow (Ne.symm hvz)
          have hf3 : Fr [] w w3 := ((hf.alloc _).drew).grown hgrow (fun x hx => .inr (row_lt hR hx).2)
          go_roundw
          case rel =>
            refine ⟨1, _, by omega, rfl, row_far hown3 (p := ⟨g, 0, none⟩) (by simp [Value.ownBlock, hgg]) _, hg3.out.set_ 0 _, hZ3.far (by have := Hg.out.1; simp; omega) _, hf3.setCell (.inr (by have := Hg.out.1; simp; omega)) _⟩
          case measure => simp [intOf]
      · rw [show ((1 : Nat) : Int) = 1 from rfl]
        have hsl := slice_abcd (k := 1) (a := 1) (b := IntKind.i64.wrap 2) (u := 98) (by omega) (by omega) (by decide) (by decide)
        go_wp2_with fail
        go_region_law
          ((refine step_append_lies _ (by rfl) _ _ _ (by rfl) w.heap.size 56 i0 _ 7 64 Tryd.underlying41 hi0 hz0 hz1 hz2 rfl (by omega) vc 1 ((compL.take 1).flatMap encC) (by rfl) ((H.out.1.alloc _).drew)
              ⟨wr.heap.size, 0, none⟩ 1 1 [.string ⟨#[98]⟩, .int .i64 2, .bool true, .int .i64 0, .int .i64 0, .int .i64 0, .int .i64 0] (by rfl) (by rfl) (World.news_of_block (cs := #[.string ⟨#[98]⟩, .int .i64 2, .bool true, .int .i64 0, .int .i64 0, .int .i64 0, .int .i64 0]) (t := 56) (fr := (0, 0)) (heap_alloc_new wr _)) (by simp [Value.oneCell'])
              (by omega) (by unfold maxLen; omega) (by omega) (by simp; omega) (wr.heap.size + 1) (by simp) ?_; intro gg cap w3 hown3 hgrow hat hlt
            have hg3 := hide (((H.out.2.1.alloc (.cells #[.string ⟨#[98]⟩, .int .i64 2, .bool true, .int .i64 0, .int .i64 0, .int .i64 0, .int .i64 0] 56)).drew).grown hgrow (Ne.symm H.out.2.2.2.2.1))
            have hc3 := hg3.out.at_ 0 (v := vc) (by rfl)
            have fg3 := hg3.out.frozen 0))
        all_goals
          go_wp2
          obtain ⟨hR, hB, hZ, hf, hvb, hvz⟩ := H.out
          have hgg : gg ≠ g := by
            rintro rfl
            rcases hat with hat | hat
            · exact hvb hat
            · omega
          have hZ3 := ((hZ.alloc (.cells #[.string ⟨#[98]⟩, .int .i64 2, .bool true, .int .i64 0, .int .i64 0, .int .i64 0, .int .i64 0] 56)).drew).grown hgrow (Ne.symm hvz)
          have hf3 : Fr [] w w3 := ((hf.alloc _).drew).grown hgrow (fun x hx => .inr (row_lt hR hx).2)
          go_roundw
          case rel =>
            refine ⟨2, _, by omega, rfl, row_far hown3 (p := ⟨g, 0, none⟩) (by simp [Value.ownBlock, hgg]) _, hg3.out.set_ 0 _, hZ3.far (by have := Hg.out.1; simp; omega) _, hf3.setCell (.inr (by have := Hg.out.1; simp; omega)) _⟩
          case measure => simp [intOf]
      · rw [show ((2 : Nat) : Int) = 2 from rfl]
        have hsl := slice_abcd (k := 2) (a := 2) (b := IntKind.i64.wrap 3) (u := 99) (by omega) (by omega) (by decide) (by decide)
        go_wp2_with fail
        go_region_law
          ((refine step_append_lies _ (by rfl) _ _ _ (by rfl) w.heap.size 56 i0 _ 7 64 Tryd.underlying41 hi0 hz0 hz1 hz2 rfl (by omega) vc 2 ((compL.take 2).flatMap encC) (by rfl) ((H.out.1.alloc _).drew)
              ⟨wr.heap.size, 0, none⟩ 1 1 [.string ⟨#[99]⟩, .int .i64 3, .bool true, .int .i64 0, .int .i64 0, .int .i64 0, .int .i64 0] (by rfl) (by rfl) (World.news_of_block (cs := #[.string ⟨#[99]⟩, .int .i64 3, .bool true, .int .i64 0, .int .i64 0, .int .i64 0, .int .i64 0]) (t := 56) (fr := (0, 0)) (heap_alloc_new wr _)) (by simp [Value.oneCell'])
              (by omega) (by unfold maxLen; omega) (by omega) (by simp; omega) (wr.heap.size + 1) (by simp) ?_; intro gg cap w3 hown3 hgrow hat hlt
            have hg3 := hide (((H.out.2.1.alloc (.cells #[.string ⟨#[99]⟩, .int .i64 3, .bool true, .int .i64 0, .int .i64 0, .int .i64 0, .int .i64 0] 56)).drew).grown hgrow (Ne.symm H.out.2.2.2.2.1))
            have hc3 := hg3.out.at_ 0 (v := vc) (by rfl)
            have fg3 := hg3.out.frozen 0))
        all_goals
          go_wp2
          obtain ⟨hR, hB, hZ, hf, hvb, hvz⟩ := H.out
          have hgg : gg ≠ g := by
            rintro rfl
            rcases hat with hat | hat
            · exact hvb hat
            · omega
          have hZ3 := ((hZ.alloc (.cells #[.string ⟨#[99]⟩, .int .i64 3, .bool true, .int .i64 0, .int .i64 0, .int .i64 0, .int .i64 0] 56)).drew).grown hgrow (Ne.symm hvz)
          have hf3 : Fr [] w w3 := ((hf.alloc _).drew).grown hgrow (fun x hx => .inr (row_lt hR hx).2)
          go_roundw
          case rel =>
            refine ⟨3, _, by omega, rfl, row_far hown3 (p := ⟨g, 0, none⟩) (by simp [Value.ownBlock, hgg]) _, hg3.out.set_ 0 _, hZ3.far (by have := Hg.out.1; simp; omega) _, hf3.setCell (.inr (by have := Hg.out.1; simp; omega)) _⟩
          case measure => simp [intOf]
      · rw [show ((3 : Nat) : Int) = 3 from rfl]
        have hsl := slice_abcd (k := 3) (a := 3) (b := IntKind.i64.wrap 4) (u := 100) (by omega) (by omega) (by decide) (by decide)
        go_wp2_with fail
        go_region_law
          ((refine step_append_lies _ (by rfl) _ _ _ (by rfl) w.heap.size 56 i0 _ 7 64 Tryd.underlying41 hi0 hz0 hz1 hz2 rfl (by omega) vc 3 ((compL.take 3).flatMap encC) (by rfl) ((H.out.1.alloc _).drew)
              ⟨wr.heap.size, 0, none⟩ 1 1 [.string ⟨#[100]⟩, .int .i64 4, .bool false, .int .i64 0, .int .i64 0, .int .i64 0, .int .i64 0] (by rfl) (by rfl) (World.news_of_block (cs := #[.string ⟨#[100]⟩, .int .i64 4, .bool false, .int .i64 0, .int .i64 0, .int .i64 0, .int .i64 0]) (t := 56) (fr := (0, 0)) (heap_alloc_new wr _)) (by simp [Value.oneCell'])
              (by omega) (by unfold maxLen; omega) (by omega) (by simp; omega) (wr.heap.size + 1) (by simp) ?_; intro gg cap w3 hown3 hgrow hat hlt
            have hg3 := hide (((H.out.2.1.alloc (.cells #[.string ⟨#[100]⟩, .int .i64 4, .bool false, .int .i64 0, .int .i64 0, .int .i64 0, .int .i64 0] 56)).drew).grown hgrow (Ne.symm H.out.2.2.2.2.1))
            have hc3 := hg3.out.at_ 0 (v := vc) (by rfl)
            have fg3 := hg3.out.frozen 0))
        all_goals
          go_wp2
          obtain ⟨hR, hB, hZ, hf, hvb, hvz⟩ := H.out
          have hgg : gg ≠ g := by
            rintro rfl
            rcases hat with hat | hat
            · exact hvb hat
            · omega
          have hZ3 := ((hZ.alloc (.cells #[.string ⟨#[100]⟩, .int .i64 4, .bool false, .int .i64 0, .int .i64 0, .int .i64 0, .int .i64 0] 56)).drew).grown hgrow (Ne.symm hvz)
          have hf3 : Fr [] w w3 := ((hf.alloc _).drew).grown hgrow (fun x hx => .inr (row_lt hR hx).2)
          go_roundw
          case rel =>
            refine ⟨4, _, by omega, rfl, row_far hown3 (p := ⟨g, 0, none⟩) (by simp [Value.ownBlock, hgg]) _, hg3.out.set_ 0 _, hZ3.far (by have := Hg.out.1; simp; omega) _, hf3.setCell (.inr (by have := Hg.out.1; simp; omega)) _⟩
          case measure => simp [intOf]
end Go.Proofs.YthjakngpegdhmaaDoor

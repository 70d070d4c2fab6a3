/- The schema of eight resources. -/
import Derived.Test.YtnncbmbepdkfnaaDoorGoods2
namespace Go.Proofs.YtnncbmbepdkfnaaDoor
open Go.RowKit
abbrev sAll : ByteArray := ⟨#[115, 116, 117, 118, 119, 120, 121, 122]⟩
def nmN (i : Nat) : ByteArray := ⟨#[(115 + i).toUInt8]⟩
def rsN : List Rs := (List.range 8).map fun i => ⟨nmN i, 10 * (i : Int)⟩
theorem infoRes : (Tryd.prog.info? 65).map (fun i => (i.zero, i.size, i.bytes)) = some (some (.agg #[.string ⟨#[]⟩, .int .i64 0]), 2, 24) := by kernel_rfl
theorem all_slice (r : Nat) (h : r < 8) (W : World) : (Instr.slice 9 (.string sAll) (some (.int .i64 (r : Int))) (some (.int .i64 ((r : Int) + 1))) none).run Tryd.prog W = .ok (.string (nmN r)) W := by
  rw [run_slice_string (h := Tryd.underlying9)]
  · refine congrArg (fun x => Result.ok (Value.string x) W) ?_
    have e1 : ((r : Int)).toNat = r := by omega
    have e2 : ((r : Int) + 1).toNat = r + 1 := by omega
    rw [e1, e2]
    refine (?_ : ∀ j : Fin 8, ByteArray.extract sAll j.1 (j.1 + 1) = nmN j.1) ⟨r, h⟩
    decide +kernel
  · omega
  · omega
  · exact Int.le_trans (b := ((8 : Nat) : Int)) (by omega) (Int.ofNat_le.2 (by decide))
theorem rsN_at {i : Nat} (h : i < 8) : rsN[i]? = some ⟨nmN i, 10 * (i : Int)⟩ := by
  unfold rsN
  rw [List.getElem?_map, List.getElem?_range h]; rfl
theorem rsN_snoc {i : Nat} (h : i < 8) : (rsN.take (i + 1)).flatMap encRs = (rsN.take i).flatMap encRs ++ [.string (nmN i), .int .i64 (10 * (i : Int))] := by
  rw [List.take_add_one, rsN_at h, List.flatMap_append]; rfl
set_option maxRecDepth 100000 in
set_option maxHeartbeats 4000000 in
theorem names_calls2 {w : World} : Calls Tryd.prog 8 #[] w fun e w' => ∃ A c, e = .returned (.agg #[.slice none 0 0, .slice A 8 c]) ∧ w'.ownsRow w.heap.size 65 2 (.slice A 8 c) 8 (rsN.flatMap encRs) ∧ Fr [] w w' := by
  obtain ⟨i9, hi9, hz9, hs9, hb9⟩ := info_parts infoRes
  have hb1 : Blk ((w.alloc (.cells #[.slice none 0 0, .slice none 0 0] 32)).alloc (.cells #[.slice none 0 0, .slice none 0 0] 32)) w.heap.size 32 #[.slice none 0 0, .slice none 0 0] := (Blk.new w _ _).alloc _
  have hb2 : Blk ((w.alloc (.cells #[.slice none 0 0, .slice none 0 0] 32)).alloc (.cells #[.slice none 0 0, .slice none 0 0] 32)) (w.heap.size + 1) 32 #[.slice none 0 0, .slice none 0 0] := Blk.new_at _ _ _ _ (by simp)
  have hf0 : Fr [] w ((w.alloc (.cells #[.slice none 0 0, .slice none 0 0] 32)).alloc (.cells #[.slice none 0 0, .slice none 0 0] 32)) := ((Fr.refl _ _).alloc _).alloc _
  have HI := hide (And.intro hb1 (And.intro hb2 hf0))
  clear hb1 hb2 hf0
  go_enter Tryd.func8, Tryd.ntmps8
  go_wp2_with fail
  generalize (w.alloc (.cells #[.slice none 0 0, .slice none 0 0] 32)).alloc (.cells #[.slice none 0 0, .slice none 0 0] 32) = w1 at *
  obtain ⟨g1, hg1⟩ : ∃ g1, g1 = w.heap.size := ⟨_, rfl⟩
  obtain ⟨g2, hg2⟩ : ∃ g2, g2 = w.heap.size + 1 := ⟨_, rfl⟩
  rw [← hg2, ← hg1] at HI ⊢
  have ne12 : g1 ≠ g2 := by omega
  have ne21 : g2 ≠ g1 := by omega
  have hB2 : w.heap.size ≤ g2 := by omega
  have hB1 : w.heap.size ≤ g1 := by omega
  have HB := hide (And.intro hB1 hB2)
  clear hg1 hg2 hB1 hB2
  go_loopw [2] (fun s2 wr => ∃ (i : Nat) (vv : Value), i ≤ 8 ∧ s2 = .int .i64 i ∧ Blk wr g2 32 #[.slice none 0 0, vv] ∧ Blk wr g1 32 #[.slice none 0 0, .slice none 0 0] ∧ wr.ownsRow w.heap.size 65 2 vv i ((rsN.take i).flatMap encRs) ∧ Fr [] w wr) (fun s2 _ => 8 - (intOf s2).toNat)
  case atStart => exact ⟨0, _, by omega, rfl, HI.out.2.1, HI.out.1, World.ownsRow_nil _ _ _ _, HI.out.2.2⟩
  case round =>
    clear HI
    obtain ⟨i, vv, hi, rfl, hb2, hb1, hrow, hf⟩ := hrel
    have j0 : (0 : Int) ≤ (i : Int) := by omega
    by_cases hin : i < 8
    · have j1 : (i : Int) < 8 := by omega
      have hsl := all_slice i hin
      have n1 : vv.ownBlock ≠ some g2 := row_blk_ne hrow hb2 (by decide)
      have n2 : vv.ownBlock ≠ some g1 := row_blk_ne hrow hb1 (by decide)
      have c1 := hb2.at_ 1 (v := vv) rfl
      have lg := hb2.lt
      have hsz := hf.size
      have hw1 : IntKind.i64.wrap ((i : Int) + 1) = (i : Int) + 1 := by rw [IntKind.wrap_i64]; omega
      have hmul : IntKind.i64.wrap (10 * (i : Int)) = 10 * (i : Int) := by rw [IntKind.wrap_i64]; omega
      have H := hide (And.intro hb2 (And.intro hb1 (And.intro hrow (And.intro hf (And.intro n1 n2)))))
      have Hin := hide hin
      generalize hxs : (rsN.take i).flatMap encRs = xs at *
      have Hxs := hide hxs
      clear hb2 hb1 hrow hf n1 n2 hxs
      generalize hnn : nmN i = nn at *
      have Hnn := hide hnn
      clear hnn
      go_wp2_with fail
      go_region_law (first | (refine step_append_lies _ (by rfl) _ _ _ (by rfl) w.heap.size 65 i9 _ 2 24 Tryd.underlying30 hi9 hz9 hs9 hb9 rfl (by omega) vv i xs (by rfl) ((H.out.2.2.1.alloc _).drew) ⟨wr.heap.size, 0, none⟩ 1 1 [.string nn, .int .i64 (10 * (i : Int))] (by rfl) (by rfl) (World.news_of_block (cs := #[.string nn, .int .i64 (10 * (i : Int))]) (t := 65) (fr := (0, 0)) (Blk.new wr 65 #[.string nn, .int .i64 (10 * (i : Int))]).drew) (by simp [Value.oneCell']) (by omega) (by unfold maxLen; omega) (by omega) (by simp; omega) (wr.heap.size + 1) (by simp) ?_; intro g7 c7 w7 hown7 hgrow7 hat7 hlt7; have hg7 := ((H.out.1.alloc _).drew).grown hgrow7 (Ne.symm H.out.2.2.2.2.1); have H7 := hide (And.intro hown7 (And.intro hgrow7 hg7)); have lg7 := hg7.lt; have fg7 := hg7.frozen 1; have q7 := hg7.at_ 1 (v := vv) rfl; clear hown7 hgrow7 hat7 hlt7 hg7; go_wp2_with fail))
      all_goals
        go_wp2_with fail
        obtain ⟨hown7, hgrow7, hg7⟩ := H7.out
        have hTf : Fr vv.ownBlock.toList wr w7 := (((Fr.refl _ _).alloc _).drew).grown hgrow7 (fun k hk => .inl (by simp [hk]))
        have hb17 := H.out.2.1.fr hTf (fun hm => H.out.2.2.2.2.2 (by simpa using hm))
        have ne7 : (Value.slice (some ⟨g7, 0, none⟩) (i + 1) c7).ownBlock ≠ some g2 := row_blk_ne hown7 hg7 (by decide)
        have hf7 : Fr [] w w7 := H.out.2.2.2.1.step hTf (fun y hy => .inr ((row_lt H.out.2.2.1 (by simpa using hy)).2))
        refine ⟨⟨i + 1, .slice (some ⟨g7, 0, none⟩) (i + 1) c7, by omega, by go_num, by simpa using hg7.set_ 1 (.slice (some ⟨g7, 0, none⟩) (i + 1) c7), hb17.far (by show g1 ≠ g2; exact ne12) _, ?_, hf7.setCell (.inr HB.out.2) _⟩, by simp [intOf]; omega⟩
        rw [rsN_snoc Hin.out, Hxs.out, Hnn.out]
        exact row_far hown7 (p := ⟨g2, 1, none⟩) ne7 _
    · obtain rfl : i = 8 := by omega
      rw [show rsN.take 8 = rsN from rfl] at hrow
      obtain ⟨g, cap, rfl⟩ : ∃ g cap, vv = .slice (some ⟨g, 0, none⟩) 8 cap := by
        rcases row_form hrow with ⟨_, h0, _⟩ | ⟨g, cap, rfl, _⟩
        · omega
        · exact ⟨_, _, rfl⟩
      have c0 := hb2.at_ 0 (v := .slice none 0 0) rfl
      have c1 := hb2.at_ 1 (v := .slice (some ⟨g, 0, none⟩) 8 cap) rfl
      have d0 := hb1.at_ 0 (v := .slice none 0 0) rfl
      have d1 := hb1.at_ 1 (v := .slice none 0 0) rfl
      have lg2 := hb2.lt
      have lg1 := hb1.lt
      have f0 := hb1.frozen 0
      have f1 := hb1.frozen 1
      have n2 : g ≠ g1 := fun e => row_blk_ne hrow hb1 (by decide) (by rw [e]; rfl)
      have H := hide (And.intro hrow (And.intro hf n2))
      have HB1 := hide hb1
      clear hb2 hb1 hrow hf n2
      go_wp2_with fail
      have hf9 : Fr [] w ((wr.setCell ⟨g1, 0, none⟩ (.slice none 0 0)).setCell ⟨g1, 1, none⟩ (.slice (some ⟨g, 0, none⟩) 8 cap)) := (H.out.2.1.setCell (p := ⟨g1, 0, none⟩) (.inr HB.out.1) _).setCell (p := ⟨g1, 1, none⟩) (.inr HB.out.1) _
      have hr9 := row_far (row_far H.out.1 (p := ⟨g1, 0, none⟩) (by simp [Value.ownBlock, H.out.2.2]) (.slice none 0 0)) (p := ⟨g1, 1, none⟩) (by simp [Value.ownBlock, H.out.2.2]) (.slice (some ⟨g, 0, none⟩) 8 cap)
      have hb9 : Blk ((wr.setCell ⟨g1, 0, none⟩ (.slice none 0 0)).setCell ⟨g1, 1, none⟩ (.slice (some ⟨g, 0, none⟩) 8 cap)) g1 32 #[.slice none 0 0, .slice (some ⟨g, 0, none⟩) 8 cap] := by simpa using (HB1.out.set_ 0 (.slice none 0 0)).set_ 1 (.slice (some ⟨g, 0, none⟩) 8 cap)
      generalize (wr.setCell ⟨g1, 0, none⟩ (.slice none 0 0)).setCell ⟨g1, 1, none⟩ (.slice (some ⟨g, 0, none⟩) 8 cap) = w9 at *
      have e0 := hb9.at_ 0 (v := .slice none 0 0) rfl
      have e1 := hb9.at_ 1 (v := .slice (some ⟨g, 0, none⟩) 8 cap) rfl
      have le := hb9.lt
      refine bodyPost_ret (v := .agg #[.slice none 0 0, .slice (some ⟨g, 0, none⟩) 8 cap]) (by simp [results, Tryd.results8, go_sem, e0, e1]) rfl ⟨_, _, rfl, hr9, hf9⟩
end Go.Proofs.YtnncbmbepdkfnaaDoor

/- The reference's goods: New. -/
import Derived.Test.YtnncbmbepdkfnaaDoorRefG
namespace Go.Proofs.YtnncbmbepdkfnaaDoor
open Go.RowKit
def RNewPost (w : World) (s : Sa) (pv : Value) (w' : World) : Prop :=
  (allFl s ≠ [] ∧ pv = .pointer none) ∨ (allFl s = [] ∧ ∃ u T, pv = gp u ∧ RG w.heap.size w' u s (s.rs.map (·.val)) 0 T)
theorem allFl_len2 {s : Sa} (h1 : s.n1 ≤ 40) (h2 : s.n2 ≤ 40) : (allFl s).length ≤ 200 := by
  unfold allFl
  have a := longFl_len sComps (decide (16 < s.n1))
  have b := longFl_len sRess (decide (8 < s.n2))
  have c := compsFl_len s s.n1
  have d := ressFl_len s s.n2
  simp only [List.length_append]
  omega
set_option maxRecDepth 100000 in
set_option maxHeartbeats 4000000 in
theorem rnew_calls {B : Nat} {w : World} {s : Sa} (hS : SaOk w B s) (hB : B ≤ w.heap.size) :
    Calls Tryd.prog 19 #[s.val] w fun e w' => ∃ pv, e = .returned pv ∧ RNewPost w s pv w' ∧ Fr [] w w' := by
  have H0 := hide hS
  have m40 := hS.b2
  obtain ⟨i9, hi9, hz9, hs9, hb9⟩ := info_parts infoIntG
  have hf1 : Fr [] w (w.alloc (.cells #[.slice s.A1 s.n1 s.c1, .slice s.A2 s.n2 s.c2] 32)) := (Fr.refl _ _).alloc _
  have HC := hide (rcheck_calls (hS.fr hf1 (by simp) hB) (Nat.le_trans hB hf1.size))
  have hv : s.val = .agg #[.slice s.A1 s.n1 s.c1, .slice s.A2 s.n2 s.c2] := rfl
  rw [hv] at HC ⊢
  have H1 := hide hf1
  clear hS hv hf1
  go_enter Tryd.func19, Tryd.ntmps19
  go_wp2_with fail
  refine HC.out.mono ?_
  rintro e w2 ⟨v, rfl, hrow, hf2⟩
  obtain ⟨A5, c5, rfl⟩ : ∃ A c, v = .slice A (allFl s).length c := by
    rcases row_form hrow with ⟨rfl, h0, _⟩ | ⟨g, cap, rfl, _⟩
    · exact ⟨none, 0, by rw [h0]⟩
    · exact ⟨_, _, rfl⟩
  have hbx := (Blk.new w 32 #[.slice s.A1 s.n1 s.c1, .slice s.A2 s.n2 s.c2]).fr0 hf2
  have H2 := hide (And.intro hbx (H1.out.trans hf2))
  by_cases hne : allFl s = []
  · rw [hne]
    have p0 := hbx.at_ 0 (v := .slice s.A1 s.n1 s.c1) rfl
    have p1 := hbx.at_ 1 (v := .slice s.A2 s.n2 s.c2) rfl
    have lp := hbx.lt
    have Hne := hide hne
    clear hrow hf2 hbx hne HC
    simp only [List.length_nil]
    go_wp2_with fail
    have hbu : Blk (w2.alloc (.cells #[.slice s.A1 s.n1 s.c1, .slice s.A2 s.n2 s.c2, .slice none 0 0, .int .i64 0] 61)) w2.heap.size 61 #[.slice s.A1 s.n1 s.c1, .slice s.A2 s.n2 s.c2, .slice none 0 0, .int .i64 0] := Blk.new _ _ _
    have hbx3 := H2.out.1.alloc (.cells #[.slice s.A1 s.n1 s.c1, .slice s.A2 s.n2 s.c2, .slice none 0 0, .int .i64 0] 61)
    have hf3 : Fr [] w (w2.alloc (.cells #[.slice s.A1 s.n1 s.c1, .slice s.A2 s.n2 s.c2, .slice none 0 0, .int .i64 0] 61)) := H2.out.2.alloc _
    have hux : w2.heap.size ≠ w.heap.size := by omega
    have huw : w.heap.size ≤ w2.heap.size := by omega
    generalize w2.alloc (.cells #[.slice s.A1 s.n1 s.c1, .slice s.A2 s.n2 s.c2, .slice none 0 0, .int .i64 0] 61) = w3 at *
    generalize w2.heap.size = u at *
    obtain ⟨bx, hbxe⟩ : ∃ bx, bx = w.heap.size := ⟨_, rfl⟩
    rw [← hbxe] at hbx3 hux ⊢
    have hux' := hux.symm
    have H3 := hide (And.intro hbu (And.intro hbx3 (And.intro hf3 huw)))
    clear hbu hbx3 hf3 p0 p1 lp huw hbxe
    go_loopw [4] (fun s4 wr => ∃ (i : Nat) (lv : Value), i ≤ s.n2 ∧ s4 = .int .i64 i ∧ Blk wr u 61 #[.slice s.A1 s.n1 s.c1, .slice s.A2 s.n2 s.c2, lv, .int .i64 0] ∧ Blk wr bx 32 #[.slice s.A1 s.n1 s.c1, .slice s.A2 s.n2 s.c2] ∧ wr.ownsRow w.heap.size 3 1 lv i (ints ((s.rs.map (·.val)).take i)) ∧ Fr [] w wr) (fun s4 _ => s.n2 - (intOf s4).toNat)
    case atStart => exact ⟨0, _, by omega, rfl, H3.out.1, H3.out.2.1, World.ownsRow_nil _ _ _ _, H3.out.2.2.1⟩
    case round =>
      obtain ⟨i, lv, hi, rfl, hbu, hbx, hrow, hf⟩ := hrel
      have j0 : (0 : Int) ≤ (i : Int) := by omega
      have p1 := hbx.at_ 1 (v := .slice s.A2 s.n2 s.c2) rfl
      have lp := hbx.lt
      by_cases hin : i < s.n2
      · have j1 : (i : Int) < (s.n2 : Int) := by omega
        obtain ⟨x, hx⟩ : ∃ x, s.rs[i]? = some x := ⟨s.rs[i]'(by have := H0.out.l2; omega), by simp⟩
        obtain ⟨b, off, hA, hbB, hcl⟩ := H0.out.r2.at_ encRs_len hx H0.out.l2
        have hbw : b < w.heap.size := by omega
        have a1 := (hf.cell (p := ⟨b, off + (i * 2 + 1), none⟩) hbw (by simp)).trans (hcl 1 (.int .i64 x.val) rfl)
        rw [← Nat.add_assoc] at a1
        have lb := Nat.lt_of_lt_of_le hbw hf.size
        have hv0 : (s.rs.map (·.val))[i]? = some x.val := by rw [List.getElem?_map, hx]; rfl
        have hv1 : ints ((s.rs.map (·.val)).take (i + 1)) = ints ((s.rs.map (·.val)).take i) ++ [.int .i64 x.val] := by rw [List.take_add_one, hv0]; simp [ints]
        have Hv1 := hide hv1
        rw [hA] at p1
        have HA := hide hA
        have n1 : lv.ownBlock ≠ some u := row_blk_ne hrow hbu (by decide)
        have n2 : lv.ownBlock ≠ some bx := row_blk_ne hrow hbx (by decide)
        have c2 := hbu.at_ 2 (v := lv) rfl
        have lg := hbu.lt
        have hsz := hf.size
        have H := hide (And.intro hbu (And.intro hbx (And.intro hrow (And.intro hf (And.intro n1 n2)))))
        clear hbu hbx hrow hf n1 n2 hcl hx hv0 hv1 hA
        go_wp2_with fail
        go_region_law (first | (refine step_append_lies _ (by rfl) _ _ _ (by rfl) w.heap.size 3 i9 _ 1 8 Tryd.underlying36 hi9 hz9 hs9 hb9 rfl (by omega) lv i (ints ((s.rs.map (·.val)).take i)) (by rfl) ((H.out.2.2.1.alloc _).drew) ⟨wr.heap.size, 0, none⟩ 1 1 [.int .i64 x.val] (by rfl) (by rfl) (World.news_of_block (cs := #[.int .i64 x.val]) (t := 3) (fr := (0, 0)) (Blk.new wr 3 #[.int .i64 x.val]).drew) (by simp [Value.oneCell']) (by omega) (by unfold maxLen; omega) (by omega) (by simp; omega) (wr.heap.size + 1) (by simp) ?_; intro g7 c7 w7 hown7 hgrow7 hat7 hlt7; have hg7 := ((H.out.1.alloc _).drew).grown hgrow7 (Ne.symm H.out.2.2.2.2.1); have H7 := hide (And.intro hown7 (And.intro hgrow7 hg7)); have lg7 := hg7.lt; have fg7 := hg7.frozen 2; have q7 := hg7.at_ 2 (v := lv) rfl; clear hown7 hgrow7 hat7 hlt7 hg7; go_wp2_with fail))
        all_goals
          go_wp2_with fail
          go_roundw
          case rel =>
            obtain ⟨hown7, hgrow7, hg7⟩ := H7.out
            have hTf : Fr lv.ownBlock.toList wr w7 := (((Fr.refl _ _).alloc _).drew).grown hgrow7 (fun k hk => .inl (by simp [hk]))
            have hb17 := H.out.2.1.fr hTf (fun hm => H.out.2.2.2.2.2 (by simpa using hm))
            have ne7 : (Value.slice (some ⟨g7, 0, none⟩) (i + 1) c7).ownBlock ≠ some u := row_blk_ne hown7 hg7 (by decide)
            have hf7 : Fr [] w w7 := H.out.2.2.2.1.step hTf (fun y hy => .inr ((row_lt H.out.2.2.1 (by simpa using hy)).2))
            refine ⟨i + 1, .slice (some ⟨g7, 0, none⟩) (i + 1) c7, by omega, by go_num, by simpa using hg7.set_ 2 (.slice (some ⟨g7, 0, none⟩) (i + 1) c7), hb17.far (by show bx ≠ u; exact hux') _, ?_, hf7.setCell (.inr H3.out.2.2.2) _⟩
            rw [Hv1.out]
            exact row_far hown7 (p := ⟨u, 2, none⟩) ne7 _
          case measure => simp [intOf]; omega
      · obtain rfl : i = s.n2 := by omega
        have j1 : ¬ (s.n2 : Int) < (s.n2 : Int) := by omega
        have hl : (s.rs.map (·.val)).length = s.n2 := by rw [List.length_map]; exact H0.out.l2
        rw [List.take_of_length_le (by omega)] at hrow
        have hrg : RG w.heap.size wr u s (s.rs.map (·.val)) 0 (u :: lv.ownBlock.toList) := ⟨lv, hbu, by rw [hl]; exact hrow, H3.out.2.2.2, rfl⟩
        have H := hide (And.intro hrg hf)
        clear hbu hbx hrow hf hrg hl
        go_wp2_with fail
        go_ret
        exact ⟨_, rfl, .inr ⟨Hne.out, _, _, rfl, H.out.1⟩, H.out.2⟩
  · have hlen : 0 < (allFl s).length := List.length_pos_iff.2 hne
    have hlen' : (0 : Int) < ((allFl s).length : Int) := by omega
    have hl200 := allFl_len2 H0.out.b1 H0.out.b2
    have Hne := hide hne
    clear hrow hf2 hbx hne HC
    generalize (allFl s).length = L at *
    go_wp2_with fail
    go_ret
    exact ⟨_, rfl, .inl ⟨Hne.out, rfl⟩, H2.out.2⟩
end Go.Proofs.YtnncbmbepdkfnaaDoor

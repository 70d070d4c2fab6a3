/- Badges by contracts: the nil receiver. -/
import Derived.Test.YtpipgkglacmoeaaDoorBAct
namespace Go.Proofs.YtpipgkglacmoeaaDoor
open Go.RowKit

set_option maxRecDepth 100000 in
theorem next_nil {w : World} : Calls Tryd.prog 17 #[.pointer none] w fun e w' => e = .returned (.int .i64 0) ∧ w = w' := by
  go_enter Tryd.func17, Tryd.ntmps17
  go_wp2_with fail
  go_ret
  exact ⟨rfl, rfl⟩
set_option maxRecDepth 100000 in
theorem len_nil {w : World} : Calls Tryd.prog 14 #[.pointer none] w fun e w' => e = .returned (.int .i64 0) ∧ w = w' := by
  go_enter Tryd.func14, Tryd.ntmps14
  go_wp2_with fail
  go_ret
  exact ⟨rfl, rfl⟩
set_option maxRecDepth 100000 in
theorem list_nil' {w : World} : Calls Tryd.prog 13 #[.pointer none] w fun e w' => e = .returned (.slice none 0 0) ∧ w = w' := by
  go_enter Tryd.func13, Tryd.ntmps13
  go_wp2_with fail
  go_ret
  exact ⟨rfl, rfl⟩
set_option maxRecDepth 100000 in
theorem id_nil {w : World} (e1 e2 : Int) : Calls Tryd.prog 16 #[.pointer none, .agg #[.int .i64 e1, .int .i64 e2]] w fun e w' => e = .returned (.tuple #[.int .i64 0, .bool false]) ∧ Fr [] w w' := by
  go_enter Tryd.func16, Tryd.ntmps16
  go_wp2_with fail
  go_ret2
  refine ⟨rfl, ?_⟩
  (repeat (first | exact Fr.refl _ _ | apply Fr.drew | apply Fr.drewN | apply Fr.alloc | (refine Fr.setCell ?_ (by first | (left; simp [Value.ownBlock]; done) | (right; simp; omega) | (right; simp; done)) _)))
theorem cells2_reads {w : World} {g : Nat} {t : TypeId} {a0 a1 : Value} (h : Blk w g t #[a0, a1]) (v0 v1 : Value) :
    (w.setCell ⟨g, 0, none⟩ v0).cell? ⟨g, 0, none⟩ = some v0 ∧ ((w.setCell ⟨g, 0, none⟩ v0).setCell ⟨g, 1, none⟩ v1).cell? ⟨g, 1, none⟩ = some v1 :=
  ⟨(h.set_ 0 v0).at_ 0 rfl, ((h.set_ 0 v0).set_ 1 v1).at_ 1 rfl⟩
set_option maxRecDepth 100000 in
theorem entity_nil {w : World} (id : Int) : Calls Tryd.prog 15 #[.pointer none, .int .i64 id] w fun e w' => e = .returned (.tuple #[.agg #[.int .i64 0, .int .i64 0], .bool false]) ∧ Fr [] w w' := by
  go_enter Tryd.func15, Tryd.ntmps15
  go_wp2_with fail
  refine bodyPost_ret (v := .tuple #[.agg #[.int .i64 0, .int .i64 0], .bool false]) (by simp [results, Tryd.results15, go_sem]) rfl ⟨rfl, ?_⟩
  (repeat (first | exact Fr.refl _ _ | apply Fr.drew | apply Fr.drewN | apply Fr.alloc | (refine Fr.setCell ?_ (by first | (left; simp [Value.ownBlock]; done) | (right; simp; omega) | (right; simp; done)) _)))
section
variable {K : List Nat} {B0 : Nat} {ad : Nat → Addr} {w : World}
set_option maxRecDepth 100000 in
theorem give_nil (hs : Sents K B0 w ad) (h2 : 2 ∈ K) (e1 e2 : Int) : Calls Tryd.prog 9 #[.pointer none, .agg #[.int .i64 e1, .int .i64 e2]] w fun e' w' => ∃ v, e' = .returned (.tuple #[.int .i64 0, v]) ∧ NewErr w w' ad v 2 ∧ Fr [] w w' := by
  have H := hide hs
  clear hs
  have HW := hide (fun W k => wrong_calls (w := W) (ad := ad) k)
  go_enter Tryd.func9, Tryd.ntmps9
  go_wp2_with fail
  refine (id_nil e1 e2).mono ?_
  rintro e w1 ⟨rfl, hf⟩
  have hf1 := ((Fr.refl [] w).alloc (.cells #[.int .i64 e1, .int .i64 e2] 27)).trans hf
  have hs1 := H.out.fr0 hf1
  have q := hs1.cell 2 h2
  have l := Nat.lt_of_lt_of_le (hs1.glob 2 h2) hs1.le
  change w1.cell? ⟨2, 0, none⟩ = some (sv (ad 2)) at q
  change 2 < w1.heap.size at l
  have Hf := hide hf1
  clear hf hf1 hs1
  go_wp2_with fail
  refine (HW.out _ 2).mono ?_
  rintro e w2 ⟨v, rfl, hn, hf⟩
  obtain ⟨t, a, rfl⟩ := hn.form
  have Hn := hide (And.intro hn hf)
  clear hn hf
  go_wp2_with fail
  go_ret2
  exact ⟨_, rfl, Hn.out.1.elder Hf.out.size, Hf.out.trans Hn.out.2⟩
set_option maxRecDepth 100000 in
theorem turn_nil (hs : Sents K B0 w ad) (h2 : 2 ∈ K) (n : Int) : Calls Tryd.prog 12 #[.pointer none, .int .i64 n] w fun e' w' => ∃ v, e' = .returned (.tuple #[.int .i64 0, v]) ∧ NewErr w w' ad v 2 ∧ Fr [] w w' := by
  have q := hs.cell 2 h2
  have l := Nat.lt_of_lt_of_le (hs.glob 2 h2) hs.le
  change w.cell? ⟨2, 0, none⟩ = some (sv (ad 2)) at q
  change 2 < w.heap.size at l
  clear hs
  have HW := hide (fun W k => wrong_calls (w := W) (ad := ad) k)
  go_enter Tryd.func12, Tryd.ntmps12
  go_wp2_with fail
  refine (HW.out _ 2).mono ?_
  rintro e w2 ⟨v, rfl, hn, hf⟩
  obtain ⟨t, a, rfl⟩ := hn.form
  have Hn := hide (And.intro hn hf)
  clear hn hf
  go_wp2_with fail
  go_ret2
  exact ⟨_, rfl, Hn.out⟩
set_option maxRecDepth 100000 in
theorem pin_nil (hs : Sents K B0 w ad) (h2 : 2 ∈ K) (id e1 e2 : Int) : Calls Tryd.prog 10 #[.pointer none, .int .i64 id, .agg #[.int .i64 e1, .int .i64 e2]] w fun e' w' => ∃ v, e' = .returned v ∧ NewErr w w' ad v 2 ∧ Fr [] w w' := by
  have H := hide hs
  clear hs
  have HW := hide (fun W k => wrong_calls (w := W) (ad := ad) k)
  go_enter Tryd.func10, Tryd.ntmps10
  go_wp2_with fail
  refine (entity_nil id).mono ?_
  rintro e w1 ⟨rfl, hf⟩
  have hbox := (Blk.new w 27 #[.int .i64 e1, .int .i64 e2]).fr0 hf
  have hf1 := ((Fr.refl [] w).alloc (.cells #[.int .i64 e1, .int .i64 e2] 27)).trans hf
  have b0 := hbox.at_ 0 (v := .int .i64 e1) rfl
  have b1 := hbox.at_ 1 (v := .int .i64 e2) rfl
  have lb := hbox.lt
  have H1 := hide hf1
  clear hf hf1 hbox
  go_wp2_with fail
  refine (id_nil e1 e2).mono ?_
  rintro e w2 ⟨rfl, hf⟩
  have hf2 := (H1.out.alloc (.cells #[.int .i64 0, .int .i64 0] 27)).trans hf
  have hs1 := H.out.fr0 hf2
  have q := hs1.cell 2 h2
  have l := Nat.lt_of_lt_of_le (hs1.glob 2 h2) hs1.le
  change w2.cell? ⟨2, 0, none⟩ = some (sv (ad 2)) at q
  change 2 < w2.heap.size at l
  have Hf := hide hf2
  clear hf hf2 hs1 b0 b1 lb
  go_wp2_with fail
  refine (HW.out _ 2).mono ?_
  rintro e w3 ⟨v, rfl, hn, hf⟩
  obtain ⟨t, a, rfl⟩ := hn.form
  have Hn := hide (And.intro hn hf)
  clear hn hf
  go_wp2_with fail
  go_ret
  exact ⟨_, rfl, Hn.out.1.elder Hf.out.size, Hf.out.trans Hn.out.2⟩
set_option maxRecDepth 100000 in
theorem drop_nil' (hs : Sents K B0 w ad) (h2 : 2 ∈ K) (id : Int) : Calls Tryd.prog 11 #[.pointer none, .int .i64 id] w fun e' w' => ∃ v, e' = .returned (.tuple #[.agg #[.int .i64 0, .int .i64 0], v]) ∧ NewErr w w' ad v 2 ∧ Fr [] w w' := by
  have H := hide hs
  clear hs
  have HW := hide (fun W k => wrong_calls (w := W) (ad := ad) k)
  go_enter Tryd.func11, Tryd.ntmps11
  go_wp2_with fail
  refine (entity_nil id).mono ?_
  rintro e w1 ⟨rfl, hf⟩
  have hbox := (Blk.new w 27 #[.int .i64 0, .int .i64 0]).fr0 hf
  have hf1 := (((Fr.refl [] w).alloc (.cells #[.int .i64 0, .int .i64 0] 27)).trans hf).alloc (.cells #[.int .i64 0, .int .i64 0] 27)
  have hbox1 := hbox.alloc (.cells #[.int .i64 0, .int .i64 0] 27)
  have hs1 := H.out.fr0 hf1
  have q := hs1.cell 2 h2
  have l := Nat.lt_of_lt_of_le (hs1.glob 2 h2) hs1.le
  have q' := (H.out.fr0 (((Fr.refl [] w).alloc (.cells #[.int .i64 0, .int .i64 0] 27)).trans hf)).cell 2 h2
  have l' := Nat.lt_of_lt_of_le ((H.out.fr0 (((Fr.refl [] w).alloc (.cells #[.int .i64 0, .int .i64 0] 27)).trans hf)).glob 2 h2) (H.out.fr0 (((Fr.refl [] w).alloc (.cells #[.int .i64 0, .int .i64 0] 27)).trans hf)).le
  change (w1.alloc (.cells #[.int .i64 0, .int .i64 0] 27)).cell? ⟨2, 0, none⟩ = some (sv (ad 2)) at q
  change w1.cell? ⟨2, 0, none⟩ = some (sv (ad 2)) at q'
  change 2 < w1.heap.size at l'
  have H1 := hide (And.intro hf1 hbox1)
  clear hf hf1 hbox hbox1 hs1 l
  go_wp2_with fail
  refine (HW.out _ 2).mono ?_
  rintro e w2 ⟨v, rfl, hn, hf⟩
  obtain ⟨t, a, rfl⟩ := hn.form
  have hf2 := H1.out.1.trans hf
  have hb2 := H1.out.2.fr0 hf
  have b0 := hb2.at_ 0 (v := .int .i64 0) rfl
  have b1 := hb2.at_ 1 (v := .int .i64 0) rfl
  have lb := hb2.lt
  have fb := hb2.frozen
  obtain ⟨r0, r1⟩ := cells2_reads hb2 (.int .i64 0) (.int .i64 0)
  have hlt := H1.out.2.lt
  have Hn := hide (And.intro (((hn.set (p := ⟨w.heap.size, 0, none⟩) hlt (.int .i64 0)).set (p := ⟨w.heap.size, 1, none⟩) hlt (.int .i64 0)).elder H1.out.1.size) hf2)
  clear hn hf hf2 hb2 q q' l' hlt
  go_wp2_with fail
  refine bodyPost_ret (v := .tuple #[.agg #[.int .i64 0, .int .i64 0], _]) (by simp [results, Tryd.results11, go_sem, r0, r1]) rfl ⟨_, rfl, Hn.out.1, (Hn.out.2.setCell (.inr (Nat.le_refl _)) _).setCell (.inr (Nat.le_refl _)) _⟩
end
end Go.Proofs.YtpipgkglacmoeaaDoor

/- awake of the statements of layer 16, by contract. -/
import Derived.Test.YthjakngpegdhmaaDoorCheck
namespace Go.Proofs.YthjakngpegdhmaaDoor
open Go.RowKit

theorem reads_blk {w : World} {b : Nat} {t : TypeId} {cs : List Value} {n B : Nat} (h : Blk w b t cs.toArray) (hl : cs.length = n * 3) (hb : b < B) : Reads w B 3 (some ⟨b, 0, none⟩) n cs :=
  ⟨hl, fun _ => ⟨b, 0, rfl, hb, fun j u hu => by rw [Nat.zero_add]; exact h.at_ j (by simpa using hu)⟩⟩
def L1 : List Ins := [⟨1, 3, 0⟩, ⟨1, 4, 0⟩, ⟨6, 0, 0⟩]
def L2 : List Ins := [⟨1, 3, 0⟩, ⟨6, 0, 0⟩]
theorem valid1 : Valid L1 := by unfold Valid; decide
theorem valid2 : Valid L2 := by unfold Valid; decide
theorem told1 : ¬ Untold L1 := by
  rintro (h | h)
  · exact h valid1
  · refine h (fun p => if p = 0 then 0 else if p = 1 then 1 else if p = 2 then 2 else if p = 3 then 1 else -1) ⟨rfl, ?_⟩
    intro p i hi hp
    match p, hi with
    | 0, hi => obtain rfl := Option.some.inj hi; refine ⟨?_, ?_, ?_, ?_⟩ <;> decide
    | 1, hi => obtain rfl := Option.some.inj hi; refine ⟨?_, ?_, ?_, ?_⟩ <;> decide
    | 2, hi => obtain rfl := Option.some.inj hi; refine ⟨?_, ?_, ?_, ?_⟩ <;> decide
    | p + 3, hi => simp [L1] at hi
theorem told1_ds {ds : List Int} (h : Told L1 ds) : ds = [0, 1, 2, 1] := by
  have d0 := h.cons.start
  have o0 := h.cons.ok 0 ⟨1, 3, 0⟩ rfl (by rw [d0]; decide)
  have d1 := o0.2.2.2 (by decide)
  rw [d0, show leaves_ ⟨1, 3, 0⟩ 0 = 1 from by decide] at d1
  have o1 := h.cons.ok 1 ⟨1, 4, 0⟩ rfl (by rw [d1]; decide)
  have d2 := o1.2.2.2 (by decide)
  rw [d1, show leaves_ ⟨1, 4, 0⟩ 1 = 2 from by decide] at d2
  have o2 := h.cons.ok 2 ⟨6, 0, 0⟩ rfl (by rw [d2]; decide)
  have d3 := o2.2.2.2 (by decide)
  rw [d2, show leaves_ ⟨6, 0, 0⟩ 2 = 1 from by decide] at d3
  have hl := h.len
  match ds, hl with
  | [a, b, c, d], _ =>
    have e0 : a = 0 := d0
    have e1 : b = 1 := d1
    have e2 : c = 2 := d2
    have e3 : d = 1 := d3
    rw [e0, e1, e2, e3]
theorem untold2 : Untold L2 := .inr fun D hc => by
  have d0 := hc.start
  have o0 := hc.ok 0 ⟨1, 3, 0⟩ rfl (by rw [d0]; decide)
  have d1 := o0.2.2.2 (by decide)
  rw [d0, show leaves_ ⟨1, 3, 0⟩ 0 = 1 from by decide] at d1
  have o1 := hc.ok 1 ⟨6, 0, 0⟩ rfl (by rw [d1]; decide)
  have := o1.1
  rw [d1] at this
  exact absurd this (by decide)
theorem ins2 : ∀ x ∈ L2, insB [] 0 L2.length x = true := by decide
theorem nil_sch (H : Nat) (w : World) : SchR H w (.slice none 0 0) [] := ⟨none, 0, rfl, fun k wd rb h => by simp at h⟩
set_option maxRecDepth 100000 in
set_option maxHeartbeats 8000000 in
theorem awake_calls {K : List Nat} {B : Nat} {ad : Nat → Addr} {w : World} (hs : Sents K B w ad) (hK1 : 1 ∈ K) (hK4 : 4 ∈ K) (hK12 : 12 ∈ K) (hK13 : 13 ∈ K) (hK14 : 14 ∈ K) (hT : RowsT w) (hTB : 1 < B) :
    Calls Tryd.prog 8 #[] w fun e w' => e = .returned (.bool true) ∧ Fr [] w w' := by
  have H0 := hide (And.intro hs (And.intro hT hTB))
  have HK := hide (And.intro hK1 (And.intro hK4 (And.intro hK12 (And.intro hK13 hK14))))
  clear hs hT hTB hK1 hK4 hK12 hK13 hK14
  go_enter Tryd.func8, Tryd.ntmps8
  go_wp2_with fail
  have hf1 : Fr [] w (w.alloc (.cells (L1.flatMap encIns).toArray 50)) := (Fr.refl _ _).alloc _
  have q := depths_calls (B := (w.alloc (.cells (L1.flatMap encIns).toArray 50)).heap.size) (c := 3) (reads_blk (n := 3) (Blk.new w 50 (L1.flatMap encIns).toArray) rfl (Blk.new _ 50 _).lt) rfl (H0.out.2.1.fr0 hf1) (Nat.lt_of_lt_of_le H0.out.2.2 (Nat.le_trans H0.out.1.le hf1.size)) (Nat.le_refl _) (by omega)
  refine q.mono ?_
  rintro e w2 ⟨hf2, ⟨ds, gD, cD, hTd, rfl, hrow⟩ | ⟨hU, rfl⟩⟩
  rotate_left
  · exact absurd hU told1
  obtain rfl := told1_ds hTd
  have HR2 := hide hrow
  have Hf2 := hide (hf1.trans hf2)
  clear hf1 hf2 hTd hrow q
  go_wp2_with fail
  have hf3 : Fr [] w (w2.alloc (.cells (L2.flatMap encIns).toArray 50)) := Hf2.out.alloc _
  have q := depths_calls (B := (w2.alloc (.cells (L2.flatMap encIns).toArray 50)).heap.size) (c := 2) (reads_blk (n := 2) (Blk.new w2 50 (L2.flatMap encIns).toArray) rfl (Blk.new _ 50 _).lt) rfl (H0.out.2.1.fr0 hf3) (Nat.lt_of_lt_of_le H0.out.2.2 (Nat.le_trans H0.out.1.le hf3.size)) (Nat.le_refl _) (by omega)
  refine q.mono ?_
  rintro e w4 ⟨hf4, ⟨ds, gD2, cD2, hTd, rfl, hrow⟩ | ⟨hU, rfl⟩⟩
  · exact absurd hTd (untold_not untold2 _)
  have HR4 := hide (row_fr HR2.out (((Fr.refl [] w2).alloc _).trans hf4) (by simp))
  have Hf4 := hide (hf3.trans hf4)
  clear hf3 hf4 hU q HR2 Hf2
  go_wp2_with fail
  have hf5 : Fr [] w (w4.alloc (.cells (L2.flatMap encIns).toArray 50)) := Hf4.out.alloc _
  have hle5 := Nat.le_trans H0.out.1.le hf5.size
  have q := check_calls (c := 2) (A1 := none) (c1 := 0) (nr := 0) (H0.out.1.fr0 hf5) HK.out.1 HK.out.2.1 HK.out.2.2.1 HK.out.2.2.2.1 HK.out.2.2.2.2 (nil_sch _ _) (H0.out.2.1.fr0 hf5) (Nat.lt_of_lt_of_le H0.out.2.2 hle5) (by simp) (by omega) (reads_blk (n := 2) (Blk.new w4 50 (L2.flatMap encIns).toArray) rfl (Blk.new _ 50 _).lt) rfl (by omega)
  refine q.mono ?_
  rintro e w6 ⟨v, rfl, hf6, -, -, h12⟩
  have hnew := h12 (by decide) ins2 untold2
  obtain ⟨b6, hch, -, -⟩ := hnew.chain
  have HC6 := hide hch
  have HR6 := hide (row_fr HR4.out (((Fr.refl [] w4).alloc _).trans hf6) (by simp))
  have Hf6 := hide (hf5.trans hf6)
  obtain ⟨t6, a6, rfl⟩ := hnew.form
  clear hf5 hf6 h12 hnew hch q HR4 Hf4
  go_wp2_with fail
  have q := find_calls (H0.out.2.1.fr0 Hf6.out) ⟨#[104, 97, 108, 116]⟩
  rw [show findP ((⟨#[104, 97, 108, 116]⟩ : ByteArray).data.toList) = (35, true) from by decide] at q
  refine q.mono ?_
  rintro e w7 ⟨rfl, hf7⟩
  have HC7 := hide (HC6.out.fr0 hf7)
  have HR7 := hide (row_fr HR6.out hf7 (by simp))
  have Hf7 := hide (Hf6.out.trans hf7)
  clear hf7 q HC6 HR6 Hf6
  go_wp2_with fail
  have HSy := hide (row_mk (base := 0) (n := 4) (cap := 4) (size := 1) (xs := ints [0, 1, 2, 1]) (Blk.new w7 3 #[.int .i64 0, .int .i64 1, .int .i64 2, .int .i64 1]) (Nat.zero_le _) (Nat.le_refl _) (by unfold maxLen; omega) rfl rfl)
  have q := same_calls (xs := [0, 1, 2, 1]) (ys := [0, 1, 2, 1]) (row_fr HR7.out ((Fr.refl [] w7).alloc (.cells #[.int .i64 0, .int .i64 1, .int .i64 2, .int .i64 1] 3)) (by simp)) HSy.out (by simp) (by simp)
  rw [decide_eq_true (rfl : [(0 : Int), 1, 2, 1] = [0, 1, 2, 1])] at q
  refine q.mono ?_
  rintro e w8 ⟨rfl, hf8⟩
  have hf78 := ((Fr.refl [] w7).alloc (.cells #[.int .i64 0, .int .i64 1, .int .i64 2, .int .i64 1] 3)).trans hf8
  have HC8 := hide (HC7.out.fr0 hf78)
  have Hf8 := hide (Hf7.out.trans hf78)
  have hs8 := H0.out.1.fr0 Hf8.out
  have e12 := hs8.cell 12 HK.out.2.2.1
  have l12 := Nat.lt_of_lt_of_le (hs8.glob 12 HK.out.2.2.1) hs8.le
  change w8.cell? ⟨0, 0, none⟩ = some (sv (ad 12)) at e12
  change 0 < w8.heap.size at l12
  have Hs8 := hide hs8
  clear hf8 hf78 q hs8 HC7 HR7 Hf7 HSy
  go_wp2_with fail
  refine (is_chain Hs8.out HK.out.2.2.1 HK.out.2.2.1 HC8.out).mono ?_
  rintro e w9 ⟨rfl, rfl⟩
  go_wp2_with fail
  refine (name_calls (H0.out.2.1.fr0 Hf8.out) 22).mono ?_
  rintro e w10 ⟨rfl, hf10⟩
  have Hf10 := hide (Hf8.out.trans hf10)
  rw [show (rowOf 22).w = [108, 111, 97, 100] from by decide]
  clear hf10 e12 l12
  go_wp2_with fail
  refine (args_calls (H0.out.2.1.fr0 Hf10.out) 22).mono ?_
  rintro e w11 ⟨rfl, hf11⟩
  have Hf11 := hide (Hf10.out.trans hf11)
  rw [show (rowOf 22).a = 2 from by decide]
  clear hf11
  go_wp2_with fail
  go_ret
  exact ⟨rfl, Hf11.out⟩
end Go.Proofs.YthjakngpegdhmaaDoor

/- The examples of the document hold of package journal: awake answers true. -/
import Derived.Test.YtioeafjlbdpjoaaDoorNoteJ
import Derived.Test.YtioeafjlbdpjoaaDoorForgetJ
import Derived.Test.YtioeafjlbdpjoaaDoorSame
namespace Go.Proofs.YtioeafjlbdpjoaaDoor
open Go.RowKit
abbrev mkU (k id n old : Int) : Un := ⟨k, id, ⟨0, 0, 0, 0, 0, 0⟩, [], n, old⟩
theorem note_lit {K : List Nat} {B0 B : Nat} {w : World} {ad : Nat → Addr} (hK : KJ K) (hs : Sents K B0 w ad) {g : Nat} {sts : List St} {s : St} {most size : Int} {S : List Nat} (h : JR B w g (sts ++ [s]) most size S) (hB : B ≤ w.heap.size) (hn : sts.length ≤ 99999)
    (hsz0 : 0 ≤ size) (hsz1 : size ≤ 65536) (hus : s.us.length ≤ 65536) {k id n old : Int} (hk1 : 1 ≤ k) (hk2 : k ≤ 9) :
    Calls Tryd.prog 10 #[ptr g, .agg #[.int .i64 k, .int .i64 id, .int .i64 0, .int .i64 0, .int .i64 0, .int .i64 0, .int .i64 0, .int .i64 0, .slice none 0 0, .int .i64 n, .int .i64 old]] w (NotePost B w ad g sts s (mkU k id n old) most size S) :=
  note_calls hK hs h hB hn hsz0 hsz1 hus (good := fun _ => True) (d := ⟨mkU k id n old, none, 0⟩) (PsOk.empty rfl fun _ => rfl) hk1 hk2
theorem note_lit_state {K : List Nat} {B : Nat} {w : World} {ad : Nat → Addr} (hK : KJ K) (hs : Sents K B w ad) {B' g : Nat} {most size : Int} {S : List Nat} (h : JR B' w g [] most size S) {k id n old : Int} (hk1 : 1 ≤ k) (hk2 : k ≤ 9) :
    Calls Tryd.prog 10 #[ptr g, .agg #[.int .i64 k, .int .i64 id, .int .i64 0, .int .i64 0, .int .i64 0, .int .i64 0, .int .i64 0, .int .i64 0, .slice none 0 0, .int .i64 n, .int .i64 old]] w (ErrPost w ad 8) :=
  note_state hK hs h ⟨mkU k id n old, none, 0⟩ hk1 hk2
structure AW (w : World) (ad : Nat → Addr) (g b : Nat) (s : ByteArray) (sts : List St) (size : Int) (S : List Nat) (wr : World) : Prop where
  jr : JR w.heap.size wr g sts 9 size S
  fr : Fr [] w wr
  e8 : Blk wr b 116 #[.string s, sv (ad 8)]
  no : b ∉ S
section
variable {w : World} {ad : Nat → Addr} {g b : Nat} {s : ByteArray} {sts sts' : List St} {size size' : Int} {S S' : List Nat} {wr w' : World}
theorem AW.stp (h : AW w ad g b s sts size S wr) (hj : JR w.heap.size w' g sts' 9 size' S') (hst : Stp S S' wr w') : AW w ad g b s sts' size' S' w' :=
  ⟨hj, h.fr.step hst.1 (fun x hx => .inr (h.jr.ge x hx).1), h.e8.fr hst.1 h.no, fun hm => (hst.2 b hm).elim h.no fun e => by have := h.e8.lt; omega⟩
theorem AW.fr0 (h : AW w ad g b s sts size S wr) (hf : Fr [] wr w') : AW w ad g b s sts size S w' := ⟨h.jr.fr0 hf, h.fr.trans hf, h.e8.fr0 hf, h.no⟩
end
theorem OutV.cells {B : Nat} {w : World} {v : Value} {us : List Un} (h : OutV B w v us) {i : Nat} {u : Un} (hu : us[i]? = some u) : ∃ g c, v = .slice (some ⟨g, 0, none⟩) us.length c ∧ g < w.heap.size ∧ w.cell? ⟨g, i * 11, none⟩ = some (.int .i64 u.kind) ∧ w.cell? ⟨g, i * 11 + 1, none⟩ = some (.int .i64 u.id) := by
  obtain ⟨ds, h1, h2, h3⟩ := h
  rw [← h2, List.getElem?_map] at hu
  obtain ⟨d, hd, rfl⟩ := Option.map_eq_some_iff.1 hu
  rcases row_form h1 with ⟨_, h0, _⟩ | ⟨g, cap, rfl, _, hl, _⟩
  · have h4 : ds.length = us.length := by rw [← h2, List.length_map]
    have := (List.getElem?_eq_some_iff.1 hd).1
    omega
  · refine ⟨g, cap, rfl, hl, ?_, row_cell h1 (by rw [flat_get Ud.cells_len hd 1 (by omega)]; rfl)⟩
    have := row_cell h1 (i := i * 11 + 0) (u := .int .i64 d.u.kind) (by rw [flat_get Ud.cells_len hd 0 (by omega)]; rfl)
    simpa using this
set_option maxRecDepth 100000 in
set_option maxHeartbeats 8000000 in
theorem awake_calls {K : List Nat} {B : Nat} {w : World} {ad : Nat → Addr} (hK : KJ K) (hs : Sents K B w ad) :
    Calls Tryd.prog 7 #[] w fun e w' => e = .returned (.bool true) ∧ Fr [] w w' := by
  have H0 := hide hs
  have n1 : ∀ (W : World), (binOp .neq 26 .nilIface .nilIface).run Tryd.prog W = .ok (.bool false) W := fun W => by kernel_rfl
  have n2 : ∀ (W : World), (binOp .eql 26 .nilIface .nilIface).run Tryd.prog W = .ok (.bool true) W := fun W => by kernel_rfl
  clear hs
  go_enter Tryd.func7, Tryd.ntmps7
  go_wp2_with fail
  refine (new_calls (most := 9) (by omega) (by omega)).mono ?_
  rintro e w1 ⟨g, rfl, ⟨S1, hj⟩, hf⟩
  have H1 := hide (And.intro hj hf)
  clear hj hf
  go_wp2_with fail
  refine (note_lit_state hK (H0.out.fr0 H1.out.2) H1.out.1 (by omega) (by omega)).mono ?_
  rintro e w2 ⟨v, rfl, ⟨b, s, hb, rfl, hc⟩, hf⟩
  have A := hide (show AW w ad g b s [] 0 S1 w2 from ⟨H1.out.1.fr0 hf, H1.out.2.trans hf, hc, fun hm => by have := (H1.out.1.ge b hm).2; omega⟩)
  clear hb hc hf H1
  go_wp2_with fail
  refine (mark_calls A.out.jr A.out.fr.size (by simp) (f := 0) ⟨by omega, by omega, by simp⟩).mono ?_
  rintro e w3 ⟨rfl, S3, hj, hst⟩
  have A3 := hide (A.out.stp hj hst)
  clear hj hst A
  go_wp2_with fail
  refine (note_lit hK (H0.out.fr0 A3.out.fr) (sts := []) (s := ⟨0, []⟩) A3.out.jr A3.out.fr.size (by simp) (by omega) (by omega) (by simp) (by omega) (by omega)).mono ?_
  rintro e w4 (⟨hst, -, -⟩ | ⟨-, hl, -⟩ | ⟨-, -, rfl, S4, hj, hst⟩)
  · simp [stale, othersK] at hst
  · omega
  have A4 := hide (A3.out.stp hj hst)
  clear hj hst A3
  go_wp2_with fail
  refine (note_lit hK (H0.out.fr0 A4.out.fr) (sts := []) (s := ⟨0, [mkU 2 1 0 0]⟩) A4.out.jr A4.out.fr.size (by simp) (by omega) (by omega) (by simp) (by omega) (by omega)).mono ?_
  rintro e w5 (⟨-, rfl, hf⟩ | ⟨hst, -⟩ | ⟨hst, -⟩)
  rotate_left
  · simp [stale, othersK, ownK, mkU] at hst
  · simp [stale, othersK, ownK, mkU] at hst
  have A5 := hide (A4.out.fr0 hf)
  clear hf A4
  go_wp2_with fail
  refine (note_lit hK (H0.out.fr0 A5.out.fr) (sts := []) (s := ⟨0, [mkU 2 1 0 0]⟩) A5.out.jr A5.out.fr.size (by simp) (by omega) (by omega) (by simp) (by omega) (by omega)).mono ?_
  rintro e w6 (⟨hst, -, -⟩ | ⟨-, hl, -⟩ | ⟨-, -, rfl, S6, hj, hst⟩)
  · simp [stale, othersK, ownK, mkU] at hst
  · omega
  have A6 := hide (A5.out.stp hj hst)
  clear hj hst A5
  go_wp2_with fail
  refine (mark_calls A6.out.jr A6.out.fr.size (by simp) (f := 1) ⟨by omega, by omega, by simp⟩).mono ?_
  rintro e w7 ⟨rfl, S7, hj, hst⟩
  have A7 := hide (A6.out.stp hj hst)
  clear hj hst A6
  go_wp2_with fail
  refine (note_lit hK (H0.out.fr0 A7.out.fr) (sts := [⟨0, [mkU 2 1 0 0, mkU 6 0 2 5]⟩]) (s := ⟨1, []⟩) A7.out.jr A7.out.fr.size (by simp) (by omega) (by omega) (by simp) (by omega) (by omega)).mono ?_
  rintro e w8 (⟨hst, -, -⟩ | ⟨-, hl, -⟩ | ⟨-, -, rfl, S8, hj, hst⟩)
  · simp [stale, othersK] at hst
  · omega
  have A8 := hide (A7.out.stp hj hst)
  clear hj hst A7
  go_wp2_with fail
  have A9 : Hid (AW w ad g b s [⟨0, [mkU 2 1 0 0, mkU 6 0 2 5]⟩, ⟨1, [mkU 1 1 0 0]⟩] 3 S8 w8) := hide A8.out
  clear A8
  have hS := since_calls hK (H0.out.fr0 A9.out.fr) A9.out.jr (by simp) (by simp) 0
  unfold SincePost at hS
  rw [show placeOf (List.map (·.fr) [(⟨0, [mkU 2 1 0 0, mkU 6 0 2 5]⟩ : St), ⟨1, [mkU 1 1 0 0]⟩]) 0 = some 0 from rfl] at hS
  have HS := hide hS
  clear hS
  refine HS.out.mono ?_
  rintro e w9 ⟨v, rfl, hv, hf⟩
  have hv2 : OutV w8.heap.size w9 v [mkU 1 1 0 0, mkU 6 0 2 5, mkU 2 1 0 0] := hv
  obtain ⟨gl, cl, rfl, -, -, -⟩ := hv2.cells (i := 0) rfl
  have A10 := hide (And.intro (A9.out.fr0 hf) (And.intro hv2 hf))
  clear hv hv2 hf HS
  go_wp2_with fail
  have hS := since_calls hK (H0.out.fr0 A10.out.1.fr) A10.out.1.jr (by simp) (by simp) 2
  unfold SincePost at hS
  rw [show placeOf (List.map (·.fr) [(⟨0, [mkU 2 1 0 0, mkU 6 0 2 5]⟩ : St), ⟨1, [mkU 1 1 0 0]⟩]) 2 = none from rfl] at hS
  have HS := hide hS
  clear hS
  refine HS.out.mono ?_
  rintro e w10 ⟨v2, rfl, ⟨b2, s2, hb2, rfl, hc2⟩, hf⟩
  have A11 := hide (And.intro (A10.out.1.fr0 hf) (And.intro (A10.out.2.1.keep hf (by simp)) (And.intro hc2 (And.intro (show b2 ∉ S8 from fun hm => by have := (A10.out.1.jr.ge b2 hm).2; omega) (Nat.le_trans A10.out.2.2.size hf.size)))))
  clear hb2 hc2 hf HS A10
  go_wp2_with fail
  refine (forget_calls A11.out.1.jr (by simp) (by omega) rfl 1).mono ?_
  rintro e w11 ⟨rfl, S11, hj, hst⟩
  have A12 := hide (show AW w ad g b s [⟨1, [mkU 1 1 0 0]⟩] 1 S11 w11 from A11.out.1.stp hj hst)
  have hb2 := A11.out.2.2.1.fr hst.1 A11.out.2.2.2.1
  have hv := A11.out.2.1.keep hst.1 (fun x hx => by have := (A9.out.jr.ge x hx).2; omega)
  have hg := (H0.out.fr0 A12.out.fr)
  have c8 := hg.cell 8 hK.h8
  have c16 := hg.cell 16 hK.h16
  have l8 := Nat.lt_of_lt_of_le (hg.glob 8 hK.h8) hg.le
  have l16 := Nat.lt_of_lt_of_le (hg.glob 16 hK.h16) hg.le
  simp only [gOf] at c8 c16 l8 l16
  obtain ⟨_, _, e1, lgl, x0, -⟩ := hv.cells (i := 0) rfl
  obtain ⟨_, _, e2, -, x2, -⟩ := hv.cells (i := 2) rfl
  injection e1 with e1 _ _
  injection e1 with e1
  injection e1 with e1 _ _
  injection e2 with e2 _ _
  injection e2 with e2
  injection e2 with e2 _ _
  subst e1
  subst e2
  have AE := hide (And.intro hb2 hg)
  clear hj hst hb2 hv hg A11
  rw [show (entries (List.take (fgN [(⟨0, [mkU 2 1 0 0, mkU 6 0 2 5]⟩ : St), ⟨1, [mkU 1 1 0 0]⟩] 1) [⟨0, [mkU 2 1 0 0, mkU 6 0 2 5]⟩, ⟨1, [mkU 1 1 0 0]⟩])).length = 2 from rfl]
  replace x0 : w11.cell? ⟨gl, 0, none⟩ = some (.int .i64 1) := x0
  replace x2 : w11.cell? ⟨gl, 22, none⟩ = some (.int .i64 2) := x2
  clear A9
  have HL := hide (len_calls A12.out.jr)
  have HM := hide (marks_calls A12.out.jr (by simp))
  have HI1 := hide (is_chain AE.out.2 hK.h8 hK.h8 (chain_of A12.out.e8))
  have HI2 := hide (is_chain AE.out.2 hK.h16 hK.h16 (chain_of AE.out.1))
  rw [decide_eq_true rfl] at HI1 HI2
  go_wp2_with fail
  refine HI1.out.mono ?_
  rintro e w' ⟨rfl, rfl⟩
  go_wp2_with fail
  refine HI2.out.mono ?_
  rintro e w' ⟨rfl, rfl⟩
  go_wp2_with fail
  refine HL.out.mono ?_
  rintro e w' ⟨rfl, rfl⟩
  go_wp2_with fail
  refine HM.out.mono ?_
  rintro e w12 ⟨v, rfl, hv, hf⟩
  go_wp2_with fail
  refine (same_calls (xs := [1]) (ys := [1]) (row_fr hv ((Fr.refl [] _).alloc (.cells #[.int .i64 1] 3)) (by simp)) (row_mk (base := 0) (n := 1) (cap := 1) (size := 1) (xs := ints [1]) (Blk.new w12 3 #[.int .i64 1]) (Nat.zero_le _) (Nat.le_refl _) (by simp [maxLen]) rfl rfl) (by simp) (by simp)).mono ?_
  rintro e w13 ⟨rfl, hf2⟩
  rw [decide_eq_true rfl]
  have AF := hide (A12.out.fr.trans (hf.trans (((Fr.refl [] _).alloc (.cells #[.int .i64 1] 3)).trans hf2)))
  clear hv hf hf2
  go_wp2_with fail
  go_ret
  exact ⟨rfl, AF.out⟩
end Go.Proofs.YtioeafjlbdpjoaaDoor

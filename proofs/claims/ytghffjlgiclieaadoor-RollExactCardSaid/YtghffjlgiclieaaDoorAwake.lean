/- The examples of the document hold of package roll: awake answers true. -/
import Derived.Test.YtghffjlgiclieaaDoorRoll3
namespace Go.Proofs.YtghffjlgiclieaaDoor
open Go.RowKit

set_option maxRecDepth 100000 in
set_option maxHeartbeats 8000000 in
theorem awake_calls {K : List Nat} {B : Nat} {w : World} {ad : Nat → Addr} (hs : Sents K B w ad) (h1 : 1 ∈ K) (h6 : 6 ∈ K) (h17 : 17 ∈ K) :
    Calls Tryd.prog 6 #[] w fun e w' => e = .returned (.bool true) ∧ Fr [] w w' := by
  have c0 := Cx.start hs
  have C := hide c0
  clear hs c0
  go_enter Tryd.func6, Tryd.ntmps6
  go_wp2_with fail
  refine (new_ok C.out.leW 2 (by omega)).mono ?_
  rintro e w1 ⟨g, S1, rfl, hr, hf, hn⟩
  have C1 := hide (C.out.obj hf hn fun b hb => (hr.lt b hb).1)
  rw [List.append_nil] at C1
  have R1 := hide hr
  clear hr hf hn C
  go_wp2_with fail
  refine (take_ok (row := [1]) (i := 0) R1.out (gen := 0) (b := false) rfl (by omega) (by omega)).mono ?_
  rintro e w2 ⟨rfl, hr, hf⟩
  have C2 := hide ((C1.out.same hf).alloc 31 #[.int .i64 0, .int .i64 1])
  have R2 := hide (hr.alloc (.cells #[.int .i64 0, .int .i64 1] 31))
  clear hr hf R1 C1
  go_wp2_with fail
  refine (take_ok (row := []) (i := 1) R2.out (gen := 0) (b := false) rfl (by omega) (by omega)).mono ?_
  rintro e w3 ⟨rfl, hr, hf⟩
  have C3 := hide ((C2.out.same hf).alloc 31 #[.int .i64 1, .int .i64 1])
  have R3 := hide (hr.alloc (.cells #[.int .i64 1, .int .i64 1] 31))
  clear hr hf R2 C2
  go_wp2_with fail
  refine (take_full C3.out.sents h6 R3.out).mono ?_
  rintro e w4 ⟨v, rfl, hn, hf⟩
  obtain ⟨b1, s1, rfl, hc⟩ := C3.out.err hf hn
  have C4 := hide (hc.alloc 31 #[.int .i64 0, .int .i64 0])
  have R4 := hide ((R3.out.fr hf (by simp)).alloc (.cells #[.int .i64 0, .int .i64 0] 31))
  clear hc hn hf R3 C3
  have hA := C4.out.blk (b := w2.heap.size) (t := 31) (cs := #[.int .i64 0, .int .i64 1]) (by simp)
  have x0 := hA.at_ 0 (v := .int .i64 0) (by rfl)
  have x1 := hA.at_ 1 (v := .int .i64 1) (by rfl)
  clear hA
  go_wp2_with fail
  refine (free_ok (row := []) R4.out C4.out.leW (k := 0) (gen := 1) rfl (by simp) (by simp)).mono ?_
  rintro e w5 ⟨rfl, S5, hr, hst⟩
  have C5 := hide (C4.out.stp hst fun b hb => (hr.lt b hb).1)
  have R5 := hide hr
  clear hr hst R4 C4 x0 x1
  go_wp2_with fail
  refine (take_ok (row := []) (i := 0) R5.out (gen := 1) (b := false) rfl (by omega) (by omega)).mono ?_
  rintro e w6 ⟨rfl, hr, hf⟩
  have C6 := hide ((C5.out.same hf).alloc 31 #[.int .i64 0, .int .i64 2])
  have R6 := hide (hr.alloc (.cells #[.int .i64 0, .int .i64 2] 31))
  clear hr hf R5 C5
  go_wp2_with fail
  refine (new_err C6.out.sents h1 65 (by omega)).mono ?_
  rintro e w7 ⟨v, rfl, hn, hf⟩
  obtain ⟨b2, s2, rfl, hc⟩ := C6.out.err hf hn
  have C7 := hide hc
  have R7 := hide (R6.out.fr hf (by simp))
  clear hc hn hf R6 C6
  have hA := C7.out.blk (b := w2.heap.size) (t := 31) (cs := #[.int .i64 0, .int .i64 1]) (by simp)
  have hB := C7.out.blk (b := w3.heap.size) (t := 31) (cs := #[.int .i64 1, .int .i64 1]) (by simp)
  have hC := C7.out.blk (b := w6.heap.size) (t := 31) (cs := #[.int .i64 0, .int .i64 2]) (by simp)
  have x0 := hA.at_ 0 (v := .int .i64 0) (by rfl)
  have x1 := hA.at_ 1 (v := .int .i64 1) (by rfl)
  have y0 := hB.at_ 0 (v := .int .i64 1) (by rfl)
  have y1 := hB.at_ 1 (v := .int .i64 1) (by rfl)
  have z0 := hC.at_ 0 (v := .int .i64 0) (by rfl)
  have z1 := hC.at_ 1 (v := .int .i64 2) (by rfl)
  have g1 := C7.out.sents.cell 1 h1
  have g6 := C7.out.sents.cell 6 h6
  have g17 := C7.out.sents.cell 17 h17
  simp only [gOf] at g1 g6 g17
  clear hA hB hC
  go_wp2_with fail
  go_region_held3 (fun w' => w'.cell? ⟨w2.heap.size, 0, none⟩ = some (.int .i64 0) ∧ w'.cell? ⟨w2.heap.size, 1, none⟩ = some (.int .i64 1) ∧ w'.cell? ⟨w3.heap.size, 0, none⟩ = some (.int .i64 1) ∧ w'.cell? ⟨w3.heap.size, 1, none⟩ = some (.int .i64 1) ∧
      w'.cell? ⟨w6.heap.size, 0, none⟩ = some (.int .i64 0) ∧ w'.cell? ⟨w6.heap.size, 1, none⟩ = some (.int .i64 2) ∧ w'.cell? ⟨0, 0, none⟩ = some (sv (ad 1)) ∧ w'.cell? ⟨2, 0, none⟩ = some (sv (ad 6)) ∧ w'.cell? ⟨3, 0, none⟩ = some (sv (ad 17))) (first | go_keep | exact ⟨(C8.out.blk (b := w2.heap.size) (t := 31) (cs := #[.int .i64 0, .int .i64 1]) (by simp)).at_ 0 (by rfl), (C8.out.blk (b := w2.heap.size) (t := 31) (cs := #[.int .i64 0, .int .i64 1]) (by simp)).at_ 1 (by rfl),
        (C8.out.blk (b := w3.heap.size) (t := 31) (cs := #[.int .i64 1, .int .i64 1]) (by simp)).at_ 0 (by rfl), (C8.out.blk (b := w3.heap.size) (t := 31) (cs := #[.int .i64 1, .int .i64 1]) (by simp)).at_ 1 (by rfl),
        (C8.out.blk (b := w6.heap.size) (t := 31) (cs := #[.int .i64 0, .int .i64 2]) (by simp)).at_ 0 (by rfl), (C8.out.blk (b := w6.heap.size) (t := 31) (cs := #[.int .i64 0, .int .i64 2]) (by simp)).at_ 1 (by rfl),
        C8.out.sents.cell 1 h1, C8.out.sents.cell 6 h6, C8.out.sents.cell 17 h17⟩)
    (first
      | (go_at_call 10; refine (free_dead C7.out.drew.sents h17 (R7.out.fr ((Fr.refl [] _).drew) (by simp)) (i := 0) (gen := 1) (by rfl) (by simp)).mono ?_; rintro e w8 ⟨v, rfl, hn8, hf8⟩; obtain ⟨b3, s3, rfl, hc8⟩ := C7.out.drew.err hf8 hn8; have C8 := hide hc8; have R8 := hide ((R7.out.fr ((Fr.refl [] _).drew) (by simp)).fr hf8 (by simp)); clear hc8 hf8 hn8)
      | (go_at_call 15; ((with_reducible refine (is_chain C7.out.drew.sents h6 h6 (chain_of (b := b1) (s := s1) (C7.out.drew.blk (by simp)))).mono ?_)); rintro e w' ⟨rfl, rfl⟩)
      | (go_at_call 15; ((with_reducible refine (is_chain C8.out.sents h17 h17 (chain_of (b := b3) (s := s3) (C8.out.blk (by simp)))).mono ?_)); rintro e w' ⟨rfl, rfl⟩)
      | (go_at_call 15; ((with_reducible refine (is_chain C8.out.sents h1 h1 (chain_of (b := b2) (s := s2) (C8.out.blk (by simp)))).mono ?_)); rintro e w' ⟨rfl, rfl⟩)
      | (go_at_call 11; refine (count_calls R8.out (by simp) (by simp)).mono ?_; rintro e w9 ⟨rfl, hf9⟩; have C8 := hide (C8.out.fr0 hf9); clear hf9))
  all_goals
    go_wp2
    go_ret
    exact ⟨rfl, C8.out.fr⟩
end Go.Proofs.YtghffjlgiclieaaDoor

/- The examples of the document hold of package column: awake answers true. -/
import Derived.Test.YtgifeligogjfiaaDoorPartEq
namespace Go.Proofs.YtgifeligogjfiaaDoor
open Go.RowKit

abbrev rP (n : Int) : Pt := ⟨3, n, 0, 0, 0, n⟩
theorem row_lit {w : World} {t : TypeId} (B : Nat) (hB : B ≤ w.heap.size) (xs : Array Value) (hm : xs.size ≤ maxLen) : (w.alloc (.cells xs t)).ownsRow B t 1 (.slice (some ⟨w.heap.size, 0, none⟩) xs.size xs.size) xs.size xs.toList :=
  row_mk (Blk.new w t xs) hB (Nat.le_refl _) hm (by simp) (by rw [Nat.mul_one, ← Array.length_toList, List.take_length])
theorem row_blk_lit {w : World} {g : Nat} {t : TypeId} {xs : Array Value} (h : Blk w g t xs) (B : Nat) (hB : B ≤ g) (hm : xs.size ≤ maxLen) : w.ownsRow B t 1 (.slice (some ⟨g, 0, none⟩) xs.size xs.size) xs.size xs.toList :=
  row_mk h hB (Nat.le_refl _) hm (by simp) (by rw [Nat.mul_one, ← Array.length_toList, List.take_length])
theorem arow_calls (w : World) (n : Int) : Calls Tryd.prog 26 #[.int .i64 n] w fun e w' => e = .returned (.agg #[.int .i64 3, .int .i64 n, .int .i64 0, .int .i64 0, .int .i64 0, .int .i64 n]) ∧ Fr [] w w' := by
  go_enter Tryd.func26, Tryd.ntmps26
  go_wp2_with fail
  refine bodyPost_ret (v := encP (rP n)) (by simp [results, Tryd.results26, go_sem, boxP]) rfl ⟨rfl, ?_⟩
  (repeat (first | exact Fr.refl _ _ | apply Fr.drew | apply Fr.drewN | apply Fr.alloc | (refine Fr.setCell ?_ (by first | (left; simp [Value.ownBlock]; done) | (right; simp; omega) | (right; simp; done)) _)))

theorem aw_keep {K : List Nat} {B : Nat} {ad : Nat → Addr} {w0 W : World} {S : List Nat} {L : List (Nat × TypeId × Array Value)} (C : Cx K B ad w0 W S L) (h1 : 1 ∈ K) (h7 : 7 ∈ K) (a b : Nat)
    (ha : (a, 35, #[.int .i64 3, .int .i64 1, .int .i64 0, .int .i64 0, .int .i64 0, .int .i64 1]) ∈ L) (hb : (b, 35, #[.int .i64 3, .int .i64 3, .int .i64 0, .int .i64 0, .int .i64 0, .int .i64 3]) ∈ L) :
    W.cell? ⟨a, 0, none⟩ = some (.int .i64 3) ∧ W.cell? ⟨a, 1, none⟩ = some (.int .i64 1) ∧ W.cell? ⟨a, 2, none⟩ = some (.int .i64 0) ∧ W.cell? ⟨a, 3, none⟩ = some (.int .i64 0) ∧ W.cell? ⟨a, 4, none⟩ = some (.int .i64 0) ∧ W.cell? ⟨a, 5, none⟩ = some (.int .i64 1) ∧
    W.cell? ⟨b, 0, none⟩ = some (.int .i64 3) ∧ W.cell? ⟨b, 1, none⟩ = some (.int .i64 3) ∧ W.cell? ⟨b, 2, none⟩ = some (.int .i64 0) ∧ W.cell? ⟨b, 3, none⟩ = some (.int .i64 0) ∧ W.cell? ⟨b, 4, none⟩ = some (.int .i64 0) ∧ W.cell? ⟨b, 5, none⟩ = some (.int .i64 3) ∧
    W.cell? ⟨2, 0, none⟩ = some (sv (ad 1)) ∧ W.cell? ⟨0, 0, none⟩ = some (sv (ad 7)) := by
  obtain ⟨a0, a1, a2, a3, a4, a5⟩ := blk6 (C.blk ha)
  obtain ⟨b0, b1, b2, b3, b4, b5⟩ := blk6 (C.blk hb)
  exact ⟨a0, a1, a2, a3, a4, a5, b0, b1, b2, b3, b4, b5, C.sents.cell 1 h1, C.sents.cell 7 h7⟩

set_option maxRecDepth 100000 in
set_option maxHeartbeats 8000000 in
theorem awake_calls {K : List Nat} {B : Nat} {w : World} {ad : Nat → Addr} (hs : Sents K B w ad) (h1 : 1 ∈ K) (h7 : 7 ∈ K) :
    Calls Tryd.prog 7 #[] w fun e w' => e = .returned (.bool true) ∧ Fr [] w w' := by
  have c0 := Cx.start hs
  have C := hide c0
  clear hs c0
  go_enter Tryd.func7, Tryd.ntmps7
  go_wp2_with fail
  refine (new_ok C.out.leW 3 2 (by omega) (by omega) (by omega) (by omega)).mono ?_
  rintro e w1 ⟨g, S1, rfl, hr, hf, hn⟩
  have C1 := hide (C.out.obj hf hn fun b hb => (hr.lt b hb).1)
  rw [List.append_nil] at C1
  have R1 := hide hr
  clear hr hf hn C
  go_wp2_with fail
  refine (arow_calls _ 1).mono ?_
  rintro e w2 ⟨rfl, hf⟩
  have C2 := hide (C1.out.fr0 hf)
  have R2 := hide (R1.out.fr0 hf)
  clear hf C1 R1
  go_wp2_with fail
  refine (push_ok R2.out C2.out.leW (by omega) (by omega) (rP 1) (by decide) (by simp)).mono ?_
  rintro e w3 ⟨rfl, S3, hr, hst⟩
  have C3 := hide (C2.out.stp hst fun b hb => (hr.lt b hb).1)
  have R3 := hide hr
  clear hr hst C2 R2
  go_wp2_with fail
  refine (arow_calls _ 2).mono ?_
  rintro e w4 ⟨rfl, hf⟩
  have C4 := hide (C3.out.fr0 hf)
  have R4 := hide (R3.out.fr0 hf)
  clear hf C3 R3
  go_wp2_with fail
  refine (push_ok R4.out C4.out.leW (by omega) (by omega) (rP 2) (by decide) (by simp)).mono ?_
  rintro e w5 ⟨rfl, S5, hr, hst⟩
  have C5 := hide (C4.out.stp hst fun b hb => (hr.lt b hb).1)
  have R5 := hide hr
  clear hr hst C4 R4
  go_wp2_with fail
  refine (arow_calls _ 3).mono ?_
  rintro e w6 ⟨rfl, hf⟩
  have C6 := hide (C5.out.fr0 hf)
  have R6 := hide (R5.out.fr0 hf)
  clear hf C5 R5
  go_wp2_with fail
  refine (push_ok R6.out C6.out.leW (by omega) (by omega) (rP 3) (by decide) (by simp)).mono ?_
  rintro e w7 ⟨rfl, S7, hr, hst⟩
  have C7 := hide (C6.out.stp hst fun b hb => (hr.lt b hb).1)
  have R7 := hide hr
  clear hr hst C6 R6
  go_wp2_with fail
  refine (Take_ok R7.out (by omega) (by omega) (by simp) (n := 0) (last := 2) (p := rP 1) (q := rP 3) (by rfl) (by rfl) (by rfl)).mono ?_
  rintro e w8 ⟨rfl, hr, hf⟩
  simp only [encP, boxP, rP, zP]
  have C8 := hide ((C7.out.same hf).alloc 35 (boxP (rP 1)))
  have R8 := hide (hr.alloc (.cells (boxP (rP 1)) 35))
  simp only [boxP, rP] at C8 R8
  clear hr hf C7 R7
  go_wp2_with fail
  refine (Row_ok R8.out (by omega) (by omega) (by simp) (n := 0) (p := rP 3) (by rfl)).mono ?_
  rintro e w9 ⟨rfl, hf⟩
  simp only [encP, boxP, rP, zP]
  have C9 := hide ((C8.out.fr0 hf).alloc 35 (boxP (rP 3)))
  have R9 := hide ((R8.out.fr0 hf).alloc (.cells (boxP (rP 3)) 35))
  simp only [boxP, rP] at C9 R9
  clear hf C8 R8
  go_wp2_with fail
  refine (Row_err (rowErr_none C9.out.sents h7 R9.out (by simp) 2 (by right; simp))).mono ?_
  rintro e wa ⟨v, rfl, hn, hf⟩
  simp only [encP, boxP, rP, zP]
  obtain ⟨b1, s1, rfl, hc⟩ := C9.out.err hf hn
  have Ca := hide (hc.alloc 35 (boxP zP))
  have Ra := hide ((R9.out.fr0 hf).alloc (.cells (boxP zP) 35))
  simp only [boxP, zP] at Ca Ra
  clear hf hn hc C9 R9
  go_wp2_with fail
  refine (push_err Ca.out.sents h1 Ra.out (by omega) (by omega) ⟨3, 0, 0, 1, 0, 0⟩ (by decide)).mono ?_
  rintro e wb ⟨v, rfl, hn, hf⟩
  obtain ⟨b2, s2, rfl, hc⟩ := Ca.out.err hf hn
  have Cb := hide hc
  have Rb := hide (Ra.out.fr0 hf)
  clear hf hn hc Ca Ra
  go_wp2_with fail
  obtain ⟨a0, a1, a2, a3, a4, a5, z0, z1, z2, z3, z4, z5, g1, g7⟩ := aw_keep Cb.out h1 h7 w8.heap.size w9.heap.size (by simp) (by simp)
  have q1 : ∀ W : World, (binOp .eql 35 (.agg #[.int .i64 3, .int .i64 1, .int .i64 0, .int .i64 0, .int .i64 0, .int .i64 1]) (.agg #[.int .i64 3, .int .i64 1, .int .i64 0, .int .i64 0, .int .i64 0, .int .i64 1])).run Tryd.prog W = .ok (.bool true) W := fun W => (eql_part (rP 1) (rP 1) W).1
  have q3 : ∀ W : World, (binOp .eql 35 (.agg #[.int .i64 3, .int .i64 3, .int .i64 0, .int .i64 0, .int .i64 0, .int .i64 3]) (.agg #[.int .i64 3, .int .i64 3, .int .i64 0, .int .i64 0, .int .i64 0, .int .i64 3])).run Tryd.prog W = .ok (.bool true) W := fun W => (eql_part (rP 3) (rP 3) W).1
  go_region_held3 (fun w' => w'.cell? ⟨w8.heap.size, 0, none⟩ = some (.int .i64 3) ∧ w'.cell? ⟨w8.heap.size, 1, none⟩ = some (.int .i64 1) ∧ w'.cell? ⟨w8.heap.size, 2, none⟩ = some (.int .i64 0) ∧ w'.cell? ⟨w8.heap.size, 3, none⟩ = some (.int .i64 0) ∧ w'.cell? ⟨w8.heap.size, 4, none⟩ = some (.int .i64 0) ∧ w'.cell? ⟨w8.heap.size, 5, none⟩ = some (.int .i64 1) ∧
      w'.cell? ⟨w9.heap.size, 0, none⟩ = some (.int .i64 3) ∧ w'.cell? ⟨w9.heap.size, 1, none⟩ = some (.int .i64 3) ∧ w'.cell? ⟨w9.heap.size, 2, none⟩ = some (.int .i64 0) ∧ w'.cell? ⟨w9.heap.size, 3, none⟩ = some (.int .i64 0) ∧ w'.cell? ⟨w9.heap.size, 4, none⟩ = some (.int .i64 0) ∧ w'.cell? ⟨w9.heap.size, 5, none⟩ = some (.int .i64 3) ∧
      w'.cell? ⟨2, 0, none⟩ = some (sv (ad 1)) ∧ w'.cell? ⟨0, 0, none⟩ = some (sv (ad 7)))
    (first | go_keep | exact aw_keep Cf.out h1 h7 _ _ (by simp) (by simp) | exact aw_keep Cg.out h1 h7 _ _ (by simp) (by simp) | exact aw_keep Ce.out h1 h7 _ _ (by simp) (by simp) | exact aw_keep Cd.out h1 h7 _ _ (by simp) (by simp) | exact aw_keep Cc.out h1 h7 _ _ (by simp) (by simp))
    (first
      | (go_at_call 26; ((with_reducible refine (arow_calls _ 1).mono ?_)); rintro e wc ⟨rfl, hfc⟩; have Cc := hide (Cb.out.drew.fr0 hfc); have Rc := hide ((Rb.out.fr0 ((Fr.refl [] _).drew)).fr0 hfc); clear hfc)
      | (go_at_call 26; ((with_reducible refine (arow_calls _ 3).mono ?_)); rintro e wd ⟨rfl, hfd⟩; have Cd := hide (Cc.out.fr0 hfd); have Rd := hide (Rc.out.fr0 hfd); clear hfd)
      | (go_at_call 15; ((with_reducible refine (is_chain Cd.out.sents h7 h7 (chain_of (b := b1) (s := s1) (Cd.out.blk (by simp)))).mono ?_)); rintro e w' ⟨rfl, rfl⟩)
      | (go_at_call 15; ((with_reducible refine (is_chain Cd.out.sents h1 h1 (chain_of (b := b2) (s := s2) (Cd.out.blk (by simp)))).mono ?_)); rintro e w' ⟨rfl, rfl⟩)
      | (go_at_call 14; ((with_reducible refine (Since_ok (Rd.out.alloc (.cells #[.int .i64 0] 3)) (by simp) 3).mono ?_)); rintro e we ⟨vs, rfl, hre, hfe⟩; have Ce := hide ((Cd.out.alloc 3 #[.int .i64 0]).fr0 hfe); have Re := hide hre; clear hfe hre)
      | (go_at_call 14; ((with_reducible refine (Since_ok Rd.out (by simp) 3).mono ?_)); rintro e we ⟨vs, rfl, hre, hfe⟩; have Cg := hide (Cd.out.fr0 hfe); have Rg := hide hre; clear hfe hre)
      | (go_at_call 23; have Cx := Ce; ((with_reducible refine (same_calls (xs := [0]) (ys := [0]) Re.out (row_blk_lit (Ce.out.blk (b := wd.heap.size) (t := 3) (cs := #[.int .i64 0]) (by simp)) 0 (by omega) (by unfold maxLen; simp)) (by simp) (by simp)).mono ?_)); rintro e wf ⟨rfl, hff⟩; have Cf := hide (Ce.out.fr0 hff); clear hff)
      | (go_at_call 23; have Cx := Cg; refine (same_calls (xs := [0]) (ys := [0]) (Rg.out.alloc (.cells #[.int .i64 0] 3)) (row_lit 0 (by omega) #[.int .i64 0] (by unfold maxLen; simp)) (by simp) (by simp)).mono ?_; rintro e wf ⟨rfl, hff⟩; have Cf := hide ((Cg.out.alloc 3 #[.int .i64 0]).fr0 hff); clear hff))
  all_goals
    go_wp2
    go_ret
    exact ⟨rfl, Cf.out.fr⟩
end Go.Proofs.YtgifeligogjfiaaDoor

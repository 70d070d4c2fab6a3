/- Package column by contracts: row, part. -/
import Derived.Test.YtgifeligogjfiaaDoorCol
namespace Go.Proofs.YtgifeligogjfiaaDoor
open Go.RowKit

theorem w64_mul {n m k : Nat} (h : (n : Int) * (k : Int) = (m : Int)) (hm : m ≤ 4611686018427387904) : wrap64 ((n : Int) * (k : Int)) = (m : Int) := by rw [h]; unfold wrap64; omega
theorem w64_nat {n : Nat} (h : n ≤ 4611686018427387904) : wrap64 (n : Int) = n := by unfold wrap64; omega
theorem w64_add {m k : Nat} (hm : m + k ≤ 4611686018427387904) : wrap64 ((m : Int) + (k : Int)) = ((m + k : Nat) : Int) := by unfold wrap64; omega

/-! ### row -/
theorem row_nil {K : List Nat} {B : Nat} {w : World} {ad : Nat → Addr} (hs : Sents K B w ad) (hK : 2 ∈ K) (n : Int) :
    Calls Tryd.prog 30 #[.pointer none, .int .i64 n] w fun e w' => ∃ v, e = .returned (.tuple #[.slice none 0 0, v]) ∧ NewErr w w' ad v 2 ∧ Fr [] w w' := by
  have c2 := hs.cell 2 hK
  simp only [gOf] at c2
  clear hs
  go_enter Tryd.func30, Tryd.ntmps30
  go_wp2_with fail
  refine wrong_sent.mono ?_
  rintro e w' ⟨v, rfl, hn, hf⟩
  obtain ⟨t, a, rfl⟩ := hn.form
  have Hn := hide (And.intro hn hf)
  clear hn hf
  go_wp2
  go_ret2
  exact ⟨_, rfl, Hn.out⟩
theorem row_none {K : List Nat} {B : Nat} {w : World} {ad : Nat → Addr} (hs : Sents K B w ad) (hK : 7 ∈ K) {g : Nat} {comp : Int} {k : Nat} {ps : List Pt} {S : List Nat} (h : ColR B w g comp k ps S) (hl : ps.length ≤ 1000000) (n : Int) (hn : n < 0 ∨ (ps.length : Int) ≤ n) :
    Calls Tryd.prog 30 #[.pointer (some ⟨g, 0, none⟩), .int .i64 n] w fun e w' => ∃ v, e = .returned (.tuple #[.slice none 0 0, v]) ∧ NewErr w w' ad v 7 ∧ Fr [] w w' := by
  obtain ⟨vc, vt, hB, hg, -, ht, -, -, -⟩ := h
  have g7 := hs.cell 7 hK
  simp only [gOf] at g7
  have lg := hg.lt
  have hv : ∃ A c, vt = .slice A ps.length c := by
    rcases row_form ht with ⟨rfl, h0, _⟩ | ⟨gt, ct, rfl, _⟩
    · exact ⟨_, _, by rw [h0]⟩
    · exact ⟨_, _, rfl⟩
  obtain ⟨A, c, rfl⟩ := hv
  have c3 := hg.at_ 3 (v := .slice A ps.length c) (by rfl)
  clear hs hg ht
  generalize ps.length = len at *
  by_cases h0 : n < 0
  · go_enter Tryd.func30, Tryd.ntmps30
    go_wp2_with fail
    refine wrong_sent.mono ?_
    rintro e w' ⟨v, rfl, hn, hf⟩
    obtain ⟨t, a, rfl⟩ := hn.form
    have Hn := hide (And.intro hn hf)
    clear hn hf
    go_wp2
    go_ret2
    exact ⟨_, rfl, Hn.out⟩
  · have h1 : (len : Int) ≤ n := by omega
    clear hn
    go_enter Tryd.func30, Tryd.ntmps30
    go_wp2_with fail
    refine wrong_sent.mono ?_
    rintro e w' ⟨v, rfl, hn, hf⟩
    obtain ⟨t, a, rfl⟩ := hn.form
    have Hn := hide (And.intro hn hf)
    clear hn hf
    go_wp2
    go_ret2
    exact ⟨_, rfl, Hn.out⟩
set_option maxHeartbeats 2000000 in
/-- a row that is there: its cells, as a slice of the column's own -/
theorem row_ok {B : Nat} {w : World} {g : Nat} {comp : Int} {k : Nat} {ps : List Pt} {S : List Nat} (h : ColR B w g comp k ps S) (h2 : 1 ≤ k) (h3 : k ≤ 4) (hl : ps.length ≤ 1000000) (n : Nat) (hn : n < ps.length) :
    Calls Tryd.prog 30 #[.pointer (some ⟨g, 0, none⟩), .int .i64 n] w fun e w' => ∃ gc cc vt, Blk w g 67 #[.int .i64 comp, .int .i64 k, .slice (some ⟨gc, 0, none⟩) (ps.length * k) cc, vt] ∧
      e = .returned (.tuple #[.slice (some ⟨gc, n * k, none⟩) k (cc - n * k), .nilIface]) ∧ Fr [] w w' := by
  obtain ⟨vc, vt, hB, hg, hc, ht, -, -, -⟩ := h
  have hkl : (n + 1) * k ≤ ps.length * k := Nat.mul_le_mul_right _ hn
  have hsm : ps.length * k ≤ 4000000 := by
    have : k = 1 ∨ k = 2 ∨ k = 3 ∨ k = 4 := by omega
    rcases this with rfl | rfl | rfl | rfl <;> omega
  rw [Nat.add_mul, Nat.one_mul] at hkl
  rcases row_form hc with ⟨_, h0, _⟩ | ⟨gc, cc, rfl, hBc, lc, hcc, hmc⟩
  · omega
  rcases row_form ht with ⟨_, h0, _⟩ | ⟨gt, ct, rfl, hBt, lt_, hct, hmt⟩
  · omega
  have lg := hg.lt
  have c1 := hg.at_ 1 (v := .int .i64 k) (by rfl)
  have c2 := hg.at_ 2 (v := .slice (some ⟨gc, 0, none⟩) (ps.length * k) cc) (by rfl)
  have c3 := hg.at_ 3 (v := .slice (some ⟨gt, 0, none⟩) ps.length ct) (by rfl)
  have Hg := hide hg
  clear hg hc ht
  have i0 : (0 : Int) ≤ (n : Int) := by omega
  have i1 : (n : Int) < (ps.length : Int) := by omega
  obtain ⟨m, hm⟩ : ∃ m, m = n * k := ⟨_, rfl⟩
  have hmi : (n : Int) * (k : Int) = (m : Int) := by rw [hm, Int.natCast_mul]
  obtain ⟨len, hlen⟩ : ∃ len, len = ps.length * k := ⟨_, rfl⟩
  rw [← hm]
  rw [← hlen, ← hm] at hkl
  rw [← hlen] at hcc c2 hsm Hg ⊢
  have hmc' : cc ≤ 9223372036854775807 := by unfold maxLen at hmc; omega
  clear hmc hmt
  have hsum : m + k ≤ 4611686018427387904 := by omega
  have Hw := hide (And.intro (w64_mul hmi (by omega)) (w64_add hsum))
  clear hm hlen hmi hn hl hsum
  go_enter Tryd.func30, Tryd.ntmps30
  go_wp2_with fail
  rw [Hw.out.1]
  go_quiet (fail)
  go_wp2_with fail
  go_ret2
  exact ⟨gc, cc, _, Hg.out, by rw [Nat.add_sub_cancel_left]; rfl, (Fr.refl _ _).drewN _⟩

/-! ### part -/
theorem cells_get {k : Nat} (h3 : k ≤ 4) {ps : List Pt} {n : Nat} {p : Pt} (h : ps[n]? = some p) (j : Nat) (v : Value) (hv : (cellsOf k p)[j]? = some v) : (ps.flatMap (cellsOf k))[n * k + j]? = some v := by
  rw [flat_get (cellsOf_len h3) h j, hv]
  have := (List.getElem?_eq_some_iff.1 hv).1
  rwa [cellsOf_len h3] at this
set_option maxHeartbeats 4000000 in
set_option maxRecDepth 100000 in
theorem part_ok {B : Nat} {w : World} {g : Nat} {comp : Int} {k : Nat} {ps : List Pt} {S : List Nat} (h : ColR B w g comp k ps S) (h2 : 1 ≤ k) (h3 : k ≤ 4) {n : Nat} {p : Pt} (hn : ps[n]? = some p) (hl : ps.length ≤ 1000000)
    {gc cc d : Nat} {vt : Value} (hb : Blk w g 67 #[.int .i64 comp, .int .i64 k, .slice (some ⟨gc, 0, none⟩) (ps.length * k) cc, vt]) :
    Calls Tryd.prog 31 #[.pointer (some ⟨g, 0, none⟩), .int .i64 n, .slice (some ⟨gc, n * k, none⟩) k d] w fun e w' => e = .returned (encP p) ∧ Fr [] w w' := by
  have hfit := h.fits p (List.mem_of_getElem? hn)
  obtain ⟨vc', vt', hB, hg, hc, ht, -, -, -⟩ := h
  have hnl : n < ps.length := (List.getElem?_eq_some_iff.1 hn).1
  have he := hg.unique hb
  simp only [Array.mk.injEq, List.cons.injEq, and_true, true_and] at he
  obtain ⟨rfl, rfl⟩ := he
  clear hb
  rcases row_form ht with ⟨_, h0, _⟩ | ⟨gt, ct, rfl, hBt, lt_, hct, hmt⟩
  · omega
  have lg := hg.lt
  have c0 := hg.at_ 0 (v := .int .i64 comp) (by rfl)
  have c3 := hg.at_ 3 (v := .slice (some ⟨gt, 0, none⟩) ps.length ct) (by rfl)
  have ct0 := row_cell ht (i := n) (u := .int .i64 p.t) (ticks_get hn)
  have hsrc := row_news (cs := cellsOf k p) hc (n * k) (fun j v hv => cells_get h3 hn j v hv)
  obtain ⟨c, v0, v1, v2, v3, t⟩ := p
  have n1 := World.new_ne w _ c0
  have n2 := World.new_ne w _ ct0
  have lc : gc < w.heap.size := (row_lt hc rfl).1
  have n3 : w.heap.size ≠ gc := by omega
  have n4 : w.heap.size + 1 ≠ g := by omega
  have n5 : w.heap.size + 1 ≠ gt := by omega
  have n4' := n4.symm
  have n5' := n5.symm
  have i0 : (0 : Int) ≤ (n : Int) := by omega
  have i1 : (n : Int) < (ps.length : Int) := by omega
  obtain ⟨m, hm⟩ : ∃ m, m = n * k := ⟨_, rfl⟩
  rw [← hm] at hsrc ⊢
  obtain ⟨hcc, hf1, hf2, hf3⟩ := hfit
  simp only at hcc hf1 hf2 hf3
  subst hcc
  have Hsrc := hide hsrc
  clear hsrc hg hc ht hm hn hmt
  obtain hk | hk | hk | hk : k = 1 ∨ k = 2 ∨ k = 3 ∨ k = 4 := by omega
  · subst hk
    go_enter Tryd.func31, Tryd.ntmps31
    go_wp2_with fail
    go_region_held3 (fun w' => w'.cell? ⟨g, 0, none⟩ = some (.int .i64 c) ∧ w'.cell? ⟨g, 3, none⟩ = some (.slice (some ⟨gt, 0, none⟩) ps.length ct) ∧ w'.cell? ⟨gt, n, none⟩ = some (.int .i64 t)) (go_keep) (fail)
    have hfa := (((Fr.refl [] w).alloc (.cells #[.int .i64 0, .int .i64 0, .int .i64 0, .int .i64 0, .int .i64 0, .int .i64 0] 35)).alloc (.cells #[.int .i64 c, .int .i64 0, .int .i64 0, .int .i64 0, .int .i64 0, .int .i64 t] 35)).drew
    have hba : Blk ((w.alloc (.cells #[.int .i64 0, .int .i64 0, .int .i64 0, .int .i64 0, .int .i64 0, .int .i64 0] 35)).alloc (.cells #[.int .i64 c, .int .i64 0, .int .i64 0, .int .i64 0, .int .i64 0, .int .i64 t] 35)).drew (w.heap.size + 1) 35 #[.int .i64 c, .int .i64 0, .int .i64 0, .int .i64 0, .int .i64 0, .int .i64 t] := (Blk.new_at _ _ _ _ (by simp)).drew
    have hbb := (((Blk.new w 35 #[.int .i64 0, .int .i64 0, .int .i64 0, .int .i64 0, .int .i64 0, .int .i64 0])).alloc (.cells #[.int .i64 c, .int .i64 0, .int .i64 0, .int .i64 0, .int .i64 0, .int .i64 t] 35)).drew
    rename_i hHeld
    clear hHeld
    generalize hX : World.drew _ = w2 at *
    have hsrc2 : ∀ (j : Nat) (v : Value), (cellsOf _ ⟨c, v0, v1, v2, v3, t⟩)[j]? = some v → w2.cell? ((⟨gc, m, none⟩ : Addr).add j) = some v := fun j v hv => (hfa.cell (by rw [add_addr]; exact lc) (by simp)).trans (Hsrc.out j v hv)
    have hk : (cellsOf 1 ⟨c, v0, v1, v2, v3, t⟩).length = 1 := cellsOf_len h3 _
    obtain ⟨w3, hcp, hb3, hcf⟩ := copy_run (P := Tryd.prog) 22 22 3 Tryd.underlying22 sizeInt 1 4 4 ⟨gc, m, none⟩ 1 d hba _ (by rfl) hsrc2 (by simp [cellsOf, vsOf]) (by simp [cellsOf, vsOf, Value.oneCell']) #[.int .i64 c, .int .i64 v0, .int .i64 v1, .int .i64 v2, .int .i64 v3, .int .i64 t] (by simp [cellsOf, vsOf] <;> omega) 1 hk
    have hbr := hbb.fr hcf (by simp)
    have hfr : Fr [] w w3 := hfa.step hcf (by simp)
    obtain ⟨d0, d1, d2, d3, d4, d5⟩ := blk6 hb3
    obtain ⟨r0, r1, r2, r3, r4, r5⟩ := blk6 hbr
    have rf := hbr.frozen
    have l2 := hbr.lt
    have l3 := hb3.lt
    have Ha := hide hfr
    have hz := Blk.set6 hbr (.int .i64 c) (.int .i64 v0) (.int .i64 v1) (.int .i64 v2) (.int .i64 v3) (.int .i64 t)
    have Hz := hide hz
    clear hX hfa hba hbb hsrc2 c0 c3 ct0 Hsrc hb3 hcf hbr hfr hz hf1 hf2 hf3
    go_wp2_with fail
    have hz := Hz.out
    have hfz := Ha.out.set6 (g := w.heap.size) (Nat.le_refl _) (.int .i64 c) (.int .i64 v0) (.int .i64 v1) (.int .i64 v2) (.int .i64 v3) (.int .i64 t)
    have Hfz := hide hfz
    clear hfz Hz Ha d0 d1 d2 d3 d4 d5 r0 r1 r2 r3 r4 r5 rf l2 l3 hcp
    generalize World.setCell _ _ _ = w9 at hz Hfz ⊢
    obtain ⟨z0, z1, z2, z3, z4, z5⟩ := blk6 hz
    refine bodyPost_ret (v := encP ⟨c, v0, v1, v2, v3, t⟩) (by simp [results, Tryd.results31, go_sem, boxP, z0, z1, z2, z3, z4, z5]) rfl ⟨rfl, Hfz.out⟩
  · subst hk
    go_enter Tryd.func31, Tryd.ntmps31
    go_wp2_with fail
    go_region_held3 (fun w' => w'.cell? ⟨g, 0, none⟩ = some (.int .i64 c) ∧ w'.cell? ⟨g, 3, none⟩ = some (.slice (some ⟨gt, 0, none⟩) ps.length ct) ∧ w'.cell? ⟨gt, n, none⟩ = some (.int .i64 t)) (go_keep) (fail)
    have hfa := (((Fr.refl [] w).alloc (.cells #[.int .i64 0, .int .i64 0, .int .i64 0, .int .i64 0, .int .i64 0, .int .i64 0] 35)).alloc (.cells #[.int .i64 c, .int .i64 0, .int .i64 0, .int .i64 0, .int .i64 0, .int .i64 t] 35)).drew
    have hba : Blk ((w.alloc (.cells #[.int .i64 0, .int .i64 0, .int .i64 0, .int .i64 0, .int .i64 0, .int .i64 0] 35)).alloc (.cells #[.int .i64 c, .int .i64 0, .int .i64 0, .int .i64 0, .int .i64 0, .int .i64 t] 35)).drew (w.heap.size + 1) 35 #[.int .i64 c, .int .i64 0, .int .i64 0, .int .i64 0, .int .i64 0, .int .i64 t] := (Blk.new_at _ _ _ _ (by simp)).drew
    have hbb := (((Blk.new w 35 #[.int .i64 0, .int .i64 0, .int .i64 0, .int .i64 0, .int .i64 0, .int .i64 0])).alloc (.cells #[.int .i64 c, .int .i64 0, .int .i64 0, .int .i64 0, .int .i64 0, .int .i64 t] 35)).drew
    rename_i hHeld
    clear hHeld
    generalize hX : World.drew _ = w2 at *
    have hsrc2 : ∀ (j : Nat) (v : Value), (cellsOf _ ⟨c, v0, v1, v2, v3, t⟩)[j]? = some v → w2.cell? ((⟨gc, m, none⟩ : Addr).add j) = some v := fun j v hv => (hfa.cell (by rw [add_addr]; exact lc) (by simp)).trans (Hsrc.out j v hv)
    have hk : (cellsOf 2 ⟨c, v0, v1, v2, v3, t⟩).length = 2 := cellsOf_len h3 _
    obtain ⟨w3, hcp, hb3, hcf⟩ := copy_run (P := Tryd.prog) 22 22 3 Tryd.underlying22 sizeInt 1 4 4 ⟨gc, m, none⟩ 2 d hba _ (by rfl) hsrc2 (by simp [cellsOf, vsOf]) (by simp [cellsOf, vsOf, Value.oneCell']) #[.int .i64 c, .int .i64 v0, .int .i64 v1, .int .i64 v2, .int .i64 v3, .int .i64 t] (by simp [cellsOf, vsOf] <;> omega) 2 hk
    have hbr := hbb.fr hcf (by simp)
    have hfr : Fr [] w w3 := hfa.step hcf (by simp)
    obtain ⟨d0, d1, d2, d3, d4, d5⟩ := blk6 hb3
    obtain ⟨r0, r1, r2, r3, r4, r5⟩ := blk6 hbr
    have rf := hbr.frozen
    have l2 := hbr.lt
    have l3 := hb3.lt
    have Ha := hide hfr
    have hz := Blk.set6 hbr (.int .i64 c) (.int .i64 v0) (.int .i64 v1) (.int .i64 v2) (.int .i64 v3) (.int .i64 t)
    have Hz := hide hz
    clear hX hfa hba hbb hsrc2 c0 c3 ct0 Hsrc hb3 hcf hbr hfr hz hf1 hf2 hf3
    go_wp2_with fail
    have hz := Hz.out
    have hfz := Ha.out.set6 (g := w.heap.size) (Nat.le_refl _) (.int .i64 c) (.int .i64 v0) (.int .i64 v1) (.int .i64 v2) (.int .i64 v3) (.int .i64 t)
    have Hfz := hide hfz
    clear hfz Hz Ha d0 d1 d2 d3 d4 d5 r0 r1 r2 r3 r4 r5 rf l2 l3 hcp
    generalize World.setCell _ _ _ = w9 at hz Hfz ⊢
    obtain ⟨z0, z1, z2, z3, z4, z5⟩ := blk6 hz
    refine bodyPost_ret (v := encP ⟨c, v0, v1, v2, v3, t⟩) (by simp [results, Tryd.results31, go_sem, boxP, z0, z1, z2, z3, z4, z5]) rfl ⟨rfl, Hfz.out⟩
  · subst hk
    go_enter Tryd.func31, Tryd.ntmps31
    go_wp2_with fail
    go_region_held3 (fun w' => w'.cell? ⟨g, 0, none⟩ = some (.int .i64 c) ∧ w'.cell? ⟨g, 3, none⟩ = some (.slice (some ⟨gt, 0, none⟩) ps.length ct) ∧ w'.cell? ⟨gt, n, none⟩ = some (.int .i64 t)) (go_keep) (fail)
    have hfa := (((Fr.refl [] w).alloc (.cells #[.int .i64 0, .int .i64 0, .int .i64 0, .int .i64 0, .int .i64 0, .int .i64 0] 35)).alloc (.cells #[.int .i64 c, .int .i64 0, .int .i64 0, .int .i64 0, .int .i64 0, .int .i64 t] 35)).drew
    have hba : Blk ((w.alloc (.cells #[.int .i64 0, .int .i64 0, .int .i64 0, .int .i64 0, .int .i64 0, .int .i64 0] 35)).alloc (.cells #[.int .i64 c, .int .i64 0, .int .i64 0, .int .i64 0, .int .i64 0, .int .i64 t] 35)).drew (w.heap.size + 1) 35 #[.int .i64 c, .int .i64 0, .int .i64 0, .int .i64 0, .int .i64 0, .int .i64 t] := (Blk.new_at _ _ _ _ (by simp)).drew
    have hbb := (((Blk.new w 35 #[.int .i64 0, .int .i64 0, .int .i64 0, .int .i64 0, .int .i64 0, .int .i64 0])).alloc (.cells #[.int .i64 c, .int .i64 0, .int .i64 0, .int .i64 0, .int .i64 0, .int .i64 t] 35)).drew
    rename_i hHeld
    clear hHeld
    generalize hX : World.drew _ = w2 at *
    have hsrc2 : ∀ (j : Nat) (v : Value), (cellsOf _ ⟨c, v0, v1, v2, v3, t⟩)[j]? = some v → w2.cell? ((⟨gc, m, none⟩ : Addr).add j) = some v := fun j v hv => (hfa.cell (by rw [add_addr]; exact lc) (by simp)).trans (Hsrc.out j v hv)
    have hk : (cellsOf 3 ⟨c, v0, v1, v2, v3, t⟩).length = 3 := cellsOf_len h3 _
    obtain ⟨w3, hcp, hb3, hcf⟩ := copy_run (P := Tryd.prog) 22 22 3 Tryd.underlying22 sizeInt 1 4 4 ⟨gc, m, none⟩ 3 d hba _ (by rfl) hsrc2 (by simp [cellsOf, vsOf]) (by simp [cellsOf, vsOf, Value.oneCell']) #[.int .i64 c, .int .i64 v0, .int .i64 v1, .int .i64 v2, .int .i64 v3, .int .i64 t] (by simp [cellsOf, vsOf] <;> omega) 3 hk
    have hbr := hbb.fr hcf (by simp)
    have hfr : Fr [] w w3 := hfa.step hcf (by simp)
    obtain ⟨d0, d1, d2, d3, d4, d5⟩ := blk6 hb3
    obtain ⟨r0, r1, r2, r3, r4, r5⟩ := blk6 hbr
    have rf := hbr.frozen
    have l2 := hbr.lt
    have l3 := hb3.lt
    have Ha := hide hfr
    have hz := Blk.set6 hbr (.int .i64 c) (.int .i64 v0) (.int .i64 v1) (.int .i64 v2) (.int .i64 v3) (.int .i64 t)
    have Hz := hide hz
    clear hX hfa hba hbb hsrc2 c0 c3 ct0 Hsrc hb3 hcf hbr hfr hz hf1 hf2 hf3
    go_wp2_with fail
    have hz := Hz.out
    have hfz := Ha.out.set6 (g := w.heap.size) (Nat.le_refl _) (.int .i64 c) (.int .i64 v0) (.int .i64 v1) (.int .i64 v2) (.int .i64 v3) (.int .i64 t)
    have Hfz := hide hfz
    clear hfz Hz Ha d0 d1 d2 d3 d4 d5 r0 r1 r2 r3 r4 r5 rf l2 l3 hcp
    generalize World.setCell _ _ _ = w9 at hz Hfz ⊢
    obtain ⟨z0, z1, z2, z3, z4, z5⟩ := blk6 hz
    refine bodyPost_ret (v := encP ⟨c, v0, v1, v2, v3, t⟩) (by simp [results, Tryd.results31, go_sem, boxP, z0, z1, z2, z3, z4, z5]) rfl ⟨rfl, Hfz.out⟩
  · subst hk
    go_enter Tryd.func31, Tryd.ntmps31
    go_wp2_with fail
    go_region_held3 (fun w' => w'.cell? ⟨g, 0, none⟩ = some (.int .i64 c) ∧ w'.cell? ⟨g, 3, none⟩ = some (.slice (some ⟨gt, 0, none⟩) ps.length ct) ∧ w'.cell? ⟨gt, n, none⟩ = some (.int .i64 t)) (go_keep) (fail)
    have hfa := (((Fr.refl [] w).alloc (.cells #[.int .i64 0, .int .i64 0, .int .i64 0, .int .i64 0, .int .i64 0, .int .i64 0] 35)).alloc (.cells #[.int .i64 c, .int .i64 0, .int .i64 0, .int .i64 0, .int .i64 0, .int .i64 t] 35)).drew
    have hba : Blk ((w.alloc (.cells #[.int .i64 0, .int .i64 0, .int .i64 0, .int .i64 0, .int .i64 0, .int .i64 0] 35)).alloc (.cells #[.int .i64 c, .int .i64 0, .int .i64 0, .int .i64 0, .int .i64 0, .int .i64 t] 35)).drew (w.heap.size + 1) 35 #[.int .i64 c, .int .i64 0, .int .i64 0, .int .i64 0, .int .i64 0, .int .i64 t] := (Blk.new_at _ _ _ _ (by simp)).drew
    have hbb := (((Blk.new w 35 #[.int .i64 0, .int .i64 0, .int .i64 0, .int .i64 0, .int .i64 0, .int .i64 0])).alloc (.cells #[.int .i64 c, .int .i64 0, .int .i64 0, .int .i64 0, .int .i64 0, .int .i64 t] 35)).drew
    rename_i hHeld
    clear hHeld
    generalize hX : World.drew _ = w2 at *
    have hsrc2 : ∀ (j : Nat) (v : Value), (cellsOf _ ⟨c, v0, v1, v2, v3, t⟩)[j]? = some v → w2.cell? ((⟨gc, m, none⟩ : Addr).add j) = some v := fun j v hv => (hfa.cell (by rw [add_addr]; exact lc) (by simp)).trans (Hsrc.out j v hv)
    have hk : (cellsOf 4 ⟨c, v0, v1, v2, v3, t⟩).length = 4 := cellsOf_len h3 _
    obtain ⟨w3, hcp, hb3, hcf⟩ := copy_run (P := Tryd.prog) 22 22 3 Tryd.underlying22 sizeInt 1 4 4 ⟨gc, m, none⟩ 4 d hba _ (by rfl) hsrc2 (by simp [cellsOf, vsOf]) (by simp [cellsOf, vsOf, Value.oneCell']) #[.int .i64 c, .int .i64 v0, .int .i64 v1, .int .i64 v2, .int .i64 v3, .int .i64 t] (by simp [cellsOf, vsOf] <;> omega) 4 hk
    have hbr := hbb.fr hcf (by simp)
    have hfr : Fr [] w w3 := hfa.step hcf (by simp)
    obtain ⟨d0, d1, d2, d3, d4, d5⟩ := blk6 hb3
    obtain ⟨r0, r1, r2, r3, r4, r5⟩ := blk6 hbr
    have rf := hbr.frozen
    have l2 := hbr.lt
    have l3 := hb3.lt
    have Ha := hide hfr
    have hz := Blk.set6 hbr (.int .i64 c) (.int .i64 v0) (.int .i64 v1) (.int .i64 v2) (.int .i64 v3) (.int .i64 t)
    have Hz := hide hz
    clear hX hfa hba hbb hsrc2 c0 c3 ct0 Hsrc hb3 hcf hbr hfr hz hf1 hf2 hf3
    go_wp2_with fail
    have hz := Hz.out
    have hfz := Ha.out.set6 (g := w.heap.size) (Nat.le_refl _) (.int .i64 c) (.int .i64 v0) (.int .i64 v1) (.int .i64 v2) (.int .i64 v3) (.int .i64 t)
    have Hfz := hide hfz
    clear hfz Hz Ha d0 d1 d2 d3 d4 d5 r0 r1 r2 r3 r4 r5 rf l2 l3 hcp
    generalize World.setCell _ _ _ = w9 at hz Hfz ⊢
    obtain ⟨z0, z1, z2, z3, z4, z5⟩ := blk6 hz
    refine bodyPost_ret (v := encP ⟨c, v0, v1, v2, v3, t⟩) (by simp [results, Tryd.results31, go_sem, boxP, z0, z1, z2, z3, z4, z5]) rfl ⟨rfl, Hfz.out⟩
end Go.Proofs.YtgifeligogjfiaaDoor

/- schema.New. -/
import Derived.Test.YtiadeafibfkmeaaDoorMaskA
namespace Go.Proofs.YtiadeafibfkmeaaDoor
open Go.RowKit
abbrev aggP (c d0 d1 d2 d3 t : Int) : Value := .agg #[.int .i64 c, .int .i64 d0, .int .i64 d1, .int .i64 d2, .int .i64 d3, .int .i64 t]
set_option maxRecDepth 100000 in
set_option maxHeartbeats 4000000 in
theorem newP_out {B : Nat} {w : World} {ad : Nat → Addr} (hs : Sents All18 B w ad) (s : Sa) (comp fr : Int) (h : comp < 0 ∨ (s.n1 : Int) ≤ comp) (hb : s.n1 ≤ 40) :
    Calls Tryd.prog 17 #[s.val, .int .i64 comp, .int .i64 fr] w fun e w' => ∃ b, e = .returned (.tuple #[aggP 0 0 0 0 0 0, bv b]) ∧ HC w' ad (bv b) ([sComps], 1) ∧ Fr [] w w' := by
  have hv : s.val = .agg #[.slice s.A1 s.n1 s.c1, .slice s.A2 s.n2 s.c2] := rfl
  rw [hv]
  have hf2 : ∀ o1 o2, Fr [] w ((w.alloc o1).alloc o2) := fun o1 o2 => ((Fr.refl _ _).alloc _).alloc _
  have g1 : ∀ o1 o2, ((w.alloc o1).alloc o2).cell? ⟨0, 0, none⟩ = some (sv (ad 1)) := fun o1 o2 => (hs.fr0 (hf2 o1 o2)).cell 1 (mem_all18 (by omega) (by omega))
  have HA := hide (fun W (hf : Fr [] w W) => at_hc (sent_hc (w := W) (ad := ad) (k := 1) (by omega) (by omega)) sComps)
  have lg1 := hs.glob 1 (mem_all18 (by omega) (by omega))
  have e1 : gOf 1 = 0 := rfl
  have hBw := hs.le
  rw [e1] at lg1
  have lg1' : 0 < w.heap.size := by omega
  have Hf2 := hide hf2
  clear hs hv hf2 e1 lg1
  by_cases h0 : comp < 0
  · go_enter Tryd.func17, Tryd.ntmps17
    go_wp2_with fail
    have hbp : ∀ o1, Blk ((w.alloc o1).alloc (.cells #[.int .i64 0, .int .i64 0, .int .i64 0, .int .i64 0, .int .i64 0, .int .i64 0] 42)) (w.heap.size + 1) 42 #[.int .i64 0, .int .i64 0, .int .i64 0, .int .i64 0, .int .i64 0, .int .i64 0] := fun o1 => Blk.new_at _ _ _ _ (by simp)
    refine (HA.out _ (Hf2.out _ _)).mono ?_
    rintro e w3 ⟨b, rfl, hc, hf3⟩
    have hb3 := (hbp _).fr0 hf3
    have k0 := hb3.at_ 0 (v := .int .i64 0) rfl
    have k1 := hb3.at_ 1 (v := .int .i64 0) rfl
    have k2 := hb3.at_ 2 (v := .int .i64 0) rfl
    have k3 := hb3.at_ 3 (v := .int .i64 0) rfl
    have k4 := hb3.at_ 4 (v := .int .i64 0) rfl
    have k5 := hb3.at_ 5 (v := .int .i64 0) rfl
    have z0 := hb3.frozen 0
    have z1 := hb3.frozen 1
    have z2 := hb3.frozen 2
    have z3 := hb3.frozen 3
    have z4 := hb3.frozen 4
    have z5 := hb3.frozen 5
    have lb3 := hb3.lt
    have H3 := hide (And.intro hc (And.intro ((Hf2.out _ _).trans hf3) hb3))
    clear hc hf3 hb3 hbp g1
    go_wp2_with fail
    have hb4 : Blk ((((((w3.setCell ⟨w.heap.size + 1, 0, none⟩ (.int .i64 0)).setCell ⟨w.heap.size + 1, 1, none⟩ (.int .i64 0)).setCell ⟨w.heap.size + 1, 2, none⟩ (.int .i64 0)).setCell ⟨w.heap.size + 1, 3, none⟩ (.int .i64 0)).setCell ⟨w.heap.size + 1, 4, none⟩ (.int .i64 0)).setCell ⟨w.heap.size + 1, 5, none⟩ (.int .i64 0)) (w.heap.size + 1) 42 #[.int .i64 0, .int .i64 0, .int .i64 0, .int .i64 0, .int .i64 0, .int .i64 0] := (((((H3.out.2.2.set_ 0 _).set_ 1 _).set_ 2 _).set_ 3 _).set_ 4 _).set_ 5 _
    have hf4 : Fr [w.heap.size + 1] w3 ((((((w3.setCell ⟨w.heap.size + 1, 0, none⟩ (.int .i64 0)).setCell ⟨w.heap.size + 1, 1, none⟩ (.int .i64 0)).setCell ⟨w.heap.size + 1, 2, none⟩ (.int .i64 0)).setCell ⟨w.heap.size + 1, 3, none⟩ (.int .i64 0)).setCell ⟨w.heap.size + 1, 4, none⟩ (.int .i64 0)).setCell ⟨w.heap.size + 1, 5, none⟩ (.int .i64 0)) := ((((((Fr.refl _ w3).setCell (by simp) _).setCell (by simp) _).setCell (by simp) _).setCell (by simp) _).setCell (by simp) _).setCell (by simp) _
    generalize (((((w3.setCell ⟨w.heap.size + 1, 0, none⟩ (.int .i64 0)).setCell ⟨w.heap.size + 1, 1, none⟩ (.int .i64 0)).setCell ⟨w.heap.size + 1, 2, none⟩ (.int .i64 0)).setCell ⟨w.heap.size + 1, 3, none⟩ (.int .i64 0)).setCell ⟨w.heap.size + 1, 4, none⟩ (.int .i64 0)).setCell ⟨w.heap.size + 1, 5, none⟩ (.int .i64 0) = w4 at *
    have hc4 := H3.out.1.frT hf4 (fun q hq => by rw [List.mem_singleton] at hq; subst hq; exact ⟨_, _, H3.out.2.2, by decide⟩)
    have hfw := H3.out.2.1.step hf4 (fun q hq => by rw [List.mem_singleton] at hq; subst hq; exact .inr (by omega))
    refine bodyPost_ret (v := .tuple #[aggP 0 0 0 0 0 0, bv b]) ?_ rfl ⟨b, rfl, hc4, hfw⟩
    have j0 := hb4.at_ 0 (v := .int .i64 0) rfl
    have j1 := hb4.at_ 1 (v := .int .i64 0) rfl
    have j2 := hb4.at_ 2 (v := .int .i64 0) rfl
    have j3 := hb4.at_ 3 (v := .int .i64 0) rfl
    have j4 := hb4.at_ 4 (v := .int .i64 0) rfl
    have j5 := hb4.at_ 5 (v := .int .i64 0) rfl
    rw [results_cell_tmp rfl]
    simp [go_sem, j0, j1, j2, j3, j4, j5]
  · have h1 : (s.n1 : Int) ≤ comp := by omega
    go_enter Tryd.func17, Tryd.ntmps17
    go_wp2_with fail
    have hbp : ∀ o1, Blk ((w.alloc o1).alloc (.cells #[.int .i64 0, .int .i64 0, .int .i64 0, .int .i64 0, .int .i64 0, .int .i64 0] 42)) (w.heap.size + 1) 42 #[.int .i64 0, .int .i64 0, .int .i64 0, .int .i64 0, .int .i64 0, .int .i64 0] := fun o1 => Blk.new_at _ _ _ _ (by simp)
    refine (HA.out _ (Hf2.out _ _)).mono ?_
    rintro e w3 ⟨b, rfl, hc, hf3⟩
    have hb3 := (hbp _).fr0 hf3
    have k0 := hb3.at_ 0 (v := .int .i64 0) rfl
    have k1 := hb3.at_ 1 (v := .int .i64 0) rfl
    have k2 := hb3.at_ 2 (v := .int .i64 0) rfl
    have k3 := hb3.at_ 3 (v := .int .i64 0) rfl
    have k4 := hb3.at_ 4 (v := .int .i64 0) rfl
    have k5 := hb3.at_ 5 (v := .int .i64 0) rfl
    have z0 := hb3.frozen 0
    have z1 := hb3.frozen 1
    have z2 := hb3.frozen 2
    have z3 := hb3.frozen 3
    have z4 := hb3.frozen 4
    have z5 := hb3.frozen 5
    have lb3 := hb3.lt
    have H3 := hide (And.intro hc (And.intro ((Hf2.out _ _).trans hf3) hb3))
    clear hc hf3 hb3 hbp g1
    go_wp2_with fail
    have hb4 : Blk ((((((w3.setCell ⟨w.heap.size + 1, 0, none⟩ (.int .i64 0)).setCell ⟨w.heap.size + 1, 1, none⟩ (.int .i64 0)).setCell ⟨w.heap.size + 1, 2, none⟩ (.int .i64 0)).setCell ⟨w.heap.size + 1, 3, none⟩ (.int .i64 0)).setCell ⟨w.heap.size + 1, 4, none⟩ (.int .i64 0)).setCell ⟨w.heap.size + 1, 5, none⟩ (.int .i64 0)) (w.heap.size + 1) 42 #[.int .i64 0, .int .i64 0, .int .i64 0, .int .i64 0, .int .i64 0, .int .i64 0] := (((((H3.out.2.2.set_ 0 _).set_ 1 _).set_ 2 _).set_ 3 _).set_ 4 _).set_ 5 _
    have hf4 : Fr [w.heap.size + 1] w3 ((((((w3.setCell ⟨w.heap.size + 1, 0, none⟩ (.int .i64 0)).setCell ⟨w.heap.size + 1, 1, none⟩ (.int .i64 0)).setCell ⟨w.heap.size + 1, 2, none⟩ (.int .i64 0)).setCell ⟨w.heap.size + 1, 3, none⟩ (.int .i64 0)).setCell ⟨w.heap.size + 1, 4, none⟩ (.int .i64 0)).setCell ⟨w.heap.size + 1, 5, none⟩ (.int .i64 0)) := ((((((Fr.refl _ w3).setCell (by simp) _).setCell (by simp) _).setCell (by simp) _).setCell (by simp) _).setCell (by simp) _).setCell (by simp) _
    generalize (((((w3.setCell ⟨w.heap.size + 1, 0, none⟩ (.int .i64 0)).setCell ⟨w.heap.size + 1, 1, none⟩ (.int .i64 0)).setCell ⟨w.heap.size + 1, 2, none⟩ (.int .i64 0)).setCell ⟨w.heap.size + 1, 3, none⟩ (.int .i64 0)).setCell ⟨w.heap.size + 1, 4, none⟩ (.int .i64 0)).setCell ⟨w.heap.size + 1, 5, none⟩ (.int .i64 0) = w4 at *
    have hc4 := H3.out.1.frT hf4 (fun q hq => by rw [List.mem_singleton] at hq; subst hq; exact ⟨_, _, H3.out.2.2, by decide⟩)
    have hfw := H3.out.2.1.step hf4 (fun q hq => by rw [List.mem_singleton] at hq; subst hq; exact .inr (by omega))
    refine bodyPost_ret (v := .tuple #[aggP 0 0 0 0 0 0, bv b]) ?_ rfl ⟨b, rfl, hc4, hfw⟩
    have j0 := hb4.at_ 0 (v := .int .i64 0) rfl
    have j1 := hb4.at_ 1 (v := .int .i64 0) rfl
    have j2 := hb4.at_ 2 (v := .int .i64 0) rfl
    have j3 := hb4.at_ 3 (v := .int .i64 0) rfl
    have j4 := hb4.at_ 4 (v := .int .i64 0) rfl
    have j5 := hb4.at_ 5 (v := .int .i64 0) rfl
    rw [results_cell_tmp rfl]
    simp [go_sem, j0, j1, j2, j3, j4, j5]
set_option maxRecDepth 100000 in
set_option maxHeartbeats 4000000 in
theorem newP_in {B : Nat} {w : World} {s : Sa} (hS : SaOk w B s) (hB : B ≤ w.heap.size) {k : Nat} {x : Cp} (hx : s.cs[k]? = some x) (fr : Int) :
    Calls Tryd.prog 17 #[s.val, .int .i64 k, .int .i64 fr] w fun e w' => e = .returned (.tuple #[aggP k x.d0 x.d1 x.d2 x.d3 fr, .nilIface]) ∧ Fr [] w w' := by
  have hv : s.val = .agg #[.slice s.A1 s.n1 s.c1, .slice s.A2 s.n2 s.c2] := rfl
  rw [hv]
  have hk : k < s.n1 := by have := (List.getElem?_eq_some_iff.1 hx).1; have := hS.l1; omega
  have hb1 := hS.b1
  obtain ⟨b, off, hA, hb, hcl⟩ := hS.r1.at_ encC_len hx hS.l1
  have hbw : b < w.heap.size := by omega
  have a3 := hcl 3 _ rfl
  have a4 := hcl 4 _ rfl
  have a5 := hcl 5 _ rfl
  have a6 := hcl 6 _ rfl
  rw [← Nat.add_assoc] at a3 a4 a5 a6
  have i0 : (0 : Int) ≤ (k : Int) := by omega
  have i1 : (k : Int) < (s.n1 : Int) := by omega
  rw [hA]
  clear hS hv hcl hx hA
  go_enter Tryd.func17, Tryd.ntmps17
  go_wp2_with fail
  have hb4 : ∀ o1, Blk ((w.alloc o1).alloc (.cells #[.int .i64 k, .int .i64 x.d0, .int .i64 x.d1, .int .i64 x.d2, .int .i64 x.d3, .int .i64 fr] 42)) (w.heap.size + 1) 42 #[.int .i64 k, .int .i64 x.d0, .int .i64 x.d1, .int .i64 x.d2, .int .i64 x.d3, .int .i64 fr] := fun o1 => Blk.new_at _ _ _ _ (by simp)
  refine bodyPost_ret (v := .tuple #[aggP k x.d0 x.d1 x.d2 x.d3 fr, .nilIface]) ?_ rfl ⟨rfl, ((Fr.refl _ _).alloc _).alloc _⟩
  have hb5 := hb4 (.cells #[.slice (some ⟨b, off, none⟩) s.n1 s.c1, .slice s.A2 s.n2 s.c2] 25)
  generalize (w.alloc (.cells #[.slice (some ⟨b, off, none⟩) s.n1 s.c1, .slice s.A2 s.n2 s.c2] 25)).alloc (.cells #[.int .i64 k, .int .i64 x.d0, .int .i64 x.d1, .int .i64 x.d2, .int .i64 x.d3, .int .i64 fr] 42) = w4 at *
  have j0 := hb5.at_ 0 (v := .int .i64 k) rfl
  have j1 := hb5.at_ 1 (v := .int .i64 x.d0) rfl
  have j2 := hb5.at_ 2 (v := .int .i64 x.d1) rfl
  have j3 := hb5.at_ 3 (v := .int .i64 x.d2) rfl
  have j4 := hb5.at_ 4 (v := .int .i64 x.d3) rfl
  have j5 := hb5.at_ 5 (v := .int .i64 fr) rfl
  rw [results_cell_tmp rfl]
  simp [go_sem, j0, j1, j2, j3, j4, j5]
end Go.Proofs.YtiadeafibfkmeaaDoor

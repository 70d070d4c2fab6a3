/- ColumnKeeps: the walk of the law. -/
import Derived.Test.YtgifeligogjfiaaDoorKeepsPure
import Derived.Test.YtgifeligogjfiaaDoorInts
import Derived.Test.YtgifeligogjfiaaDoorZeros
import Derived.Deep.DeepCutAuto
import Derived.Deep.CutBlock
namespace Go.Proofs.YtgifeligogjfiaaDoor
open Go.RowKit

def zs101 : Array Value := Array.replicate 101 (.bool false)
theorem built101 : Tryd.prog.built 30 [] = some zs101 := by kernel_rfl
theorem info101 : (Tryd.prog.info? 30).map (fun i => (i.zero, i.size)) = some (some (.agg zs101), zs101.size) := by kernel_rfl
theorem one101 : zs101.all (·.oneCell') = true := by kernel_rfl

/-- what holds between the loops -/
def KI (K : List Nat) (w : World) (ad : Nat → Addr) (n g gl : Nat) (vs : List Nat) (us : List Nat) (wr : World) : Prop :=
  ∃ S, vs.Nodup ∧ (∀ v ∈ vs, v < n) ∧ vs.length ≤ n ∧ ColR w.heap.size wr g 5 1 (vs.map kP) S ∧ Cx K w.heap.size ad w wr S [(gl, 30, leftA us)]

theorem cx_set6 {K : List Nat} {B : Nat} {ad : Nat → Addr} {w0 w : World} {S : List Nat} {b gl : Nat} {t t' : TypeId} {z0 z1 z2 z3 z4 z5 : Value} {cs : Array Value} (h : Cx K B ad w0 w S [(b, t, #[z0, z1, z2, z3, z4, z5]), (gl, t', cs)]) (hb : w0.heap.size ≤ b) (hne : t ≠ t') (a0 a1 a2 a3 a4 a5 : Value) :
    Cx K B ad w0 ((((((w.setCell ⟨b, 0, none⟩ a0).setCell ⟨b, 1, none⟩ a1).setCell ⟨b, 2, none⟩ a2).setCell ⟨b, 3, none⟩ a3).setCell ⟨b, 4, none⟩ a4).setCell ⟨b, 5, none⟩ a5) S [(b, t, #[a0, a1, a2, a3, a4, a5]), (gl, t', cs)] ∧
    ∀ {B' g : Nat} {comp : Int} {k : Nat} {ps : List Pt}, ColR B' w g comp k ps S → ColR B' ((((((w.setCell ⟨b, 0, none⟩ a0).setCell ⟨b, 1, none⟩ a1).setCell ⟨b, 2, none⟩ a2).setCell ⟨b, 3, none⟩ a3).setCell ⟨b, 4, none⟩ a4).setCell ⟨b, 5, none⟩ a5) g comp k ps S := by
  have h1 := h.loc (b, t, #[z0, z1, z2, z3, z4, z5]) (by simp)
  have h2 := h.loc (gl, t', cs) (by simp)
  have hf := Fr.set6in (Fr.refl [b] w) (g := b) (by simp) a0 a1 a2 a3 a4 a5
  have hS : ∀ x ∈ S, x ∉ [b] := fun x hx hm => by
    rw [List.mem_singleton] at hm
    subst hm
    exact h1.2 hx
  refine ⟨((h.none.go2 hf (fun x hx => by rw [List.mem_singleton] at hx; subst hx; exact hb) hS).more (h2.1.fr hf (by
    rw [List.mem_singleton]
    exact fun e => h1.1.ne_ h2.1 hne e.symm)) h2.2).more (h1.1.set6 a0 a1 a2 a3 a4 a5) h1.2, fun hc => hc.fr hf hS⟩

set_option maxRecDepth 100000 in
set_option maxHeartbeats 8000000 in
theorem keeps_walk {K : List Nat} {w : World} {ad : Nat → Addr} (hs : Sents K w.heap.size w ad) (h1 : 1 ∈ K) (h7 : 7 ∈ K) (n0 : Int) (A : Option Addr) (len c : Nat) (l : List Int) (hl : l.length = len) (hlen : len ≤ maxLen)
    (hr : Reads w w.heap.size 1 A len (l.flatMap encI)) :
    Calls Tryd.prog 3 #[.int .i64 n0, .slice A len c] w fun e w' => e = .returned (.bool true) ∧ Below w.heap.size w w' := by
  unfold maxLen at hlen
  obtain ⟨u, hu, hu1⟩ := u64_nat n0
  have C := hide (Cx.start hs)
  have Ha := hide (awake_calls hs h1 h7)
  have Hr := hide hr
  have Hl := hide hl
  clear hs hr hl
  go_enter Tryd.func3, Tryd.ntmps3
  go_wp2_with fail
  refine Ha.out.mono ?_
  rintro e w1 ⟨rfl, hf⟩
  have C1 := hide (C.out.fr0 hf)
  clear hf C Ha
  go_wp2_with fail
  refine (new_ok C1.out.leW 5 1 (by omega) (by omega) (by omega) (by omega)).mono ?_
  rintro e w2 ⟨g, S2, rfl, hr, hf, hnew⟩
  have C2 := hide (C1.out.obj hf hnew fun b hb => (hr.lt b hb).1)
  rw [List.append_nil] at C2
  have R2 := hide hr
  clear hr hf hnew C1
  go_wp2_with (refine wpList_zeros rfl rfl rfl 30 35 8 rfl rfl rfl rfl rfl rfl zs101 built101 info101 one101 rfl rfl ?_)
  obtain ⟨n, hn, hn2⟩ : ∃ n : Nat, (n : Int) = (u : Int) % 101 ∧ n ≤ 100 := ⟨u % 101, by omega, by omega⟩
  rw [← hn]
  have HA := hide (And.intro (R2.out.alloc (.cells zs101 30)) (C2.out.alloc 30 zs101))
  have HgB := hide C2.out.fr.size
  clear hn hu hu1 R2 C2
  generalize hgl : w2.heap.size = gl at *
  clear hgl
  generalize World.alloc _ _ = w3 at HA ⊢
  go_loopw [9] (fun s wr => ∃ (k : Nat), k ≤ n ∧ s = .int .i64 k ∧ KI K w ad n g gl (List.range k) (List.range k) wr) (fun s _ => n - (intOf s).toNat)
  case atStart => exact ⟨0, by omega, rfl, S2, by simp, by simp, by simp, HA.out.1, by rw [show List.range 0 = [] from rfl, leftA_nil]; exact HA.out.2⟩
  case round =>
    clear HA
    obtain ⟨k, hk, rfl, S, hnd, hlt, hle, hR, hC⟩ := hrel
    have H := hide (And.intro hR hC)
    clear hR hC hnd hlt hle
    by_cases hkn : k < n
    · have k0 : (0 : Int) ≤ (k : Int) := by omega
      have k1 : (k : Int) < 101 := by omega
      go_wp2_with fail
      refine (push_ok H.out.1 H.out.2.leW (by omega) (by omega) (kP k) (kP_fits k) (by simp; omega)).mono ?_
      rintro e w4 ⟨rfl, S', hr, hst⟩
      rw [show ((List.range k).map kP).length = k from by simp]
      have hC4 := H.out.2.stp hst fun b hb => (hr.lt b hb).1
      have hb4 := hC4.blk (b := gl) (t := 30) (cs := leftA (List.range k)) (by simp)
      have hgS := (hC4.loc (gl, 30, leftA (List.range k)) (by simp)).2
      have c4 := hb4.at_ k (leftA_get _ (by omega))
      have f4 := hb4.frozen
      have l4 := hb4.lt
      have H4 := hide (And.intro hr (And.intro hC4 (And.intro hb4 hgS)))
      clear hr hst hC4 hb4 hgS H
      go_wp2_with fail
      go_roundw
      case rel =>
        obtain ⟨hr, hC4, hb4, hgS⟩ := H4.out
        have hset : (leftA (List.range k)).setIfInBounds k (.bool true) = leftA (List.range (k + 1)) := leftA_put true (fun x _ => by
          rw [List.mem_range, List.mem_range]
          by_cases hx : x = k
          · simp [hx]
          · rw [if_neg hx]; omega)
        have hb5 := hb4.set_ k (.bool true)
        rw [hset] at hb5
        refine ⟨k + 1, by omega, by go_num, S', List.nodup_range, by intro v hv; rw [List.mem_range] at hv; omega, by rw [List.length_range]; omega, ?_, ?_⟩
        · refine ColR.fr ?_ ((Fr.refl [gl] w4).setCell (p := ⟨gl, k, none⟩) (by simp) _) ?_
          · rw [List.range_succ, List.map_append]; exact hr
          · intro b hb hm
            rw [List.mem_singleton] at hm
            subst hm
            exact hgS hb
        · exact (hC4.none.go2 (T := [gl]) ((Fr.refl [gl] w4).setCell (p := ⟨gl, k, none⟩) (by simp) (.bool true)) (by
            intro b hb
            rw [List.mem_singleton] at hb
            subst hb
            exact HgB.out) (by
            intro b hb hm
            rw [List.mem_singleton] at hm
            subst hm
            exact hgS hb)).more hb5 hgS
      case measure => simp [intOf]; omega
    · obtain rfl : k = n := by omega
      have HI : Hid (KI K w ad k g gl (List.range k) (List.range k) wr) := hide ⟨S, List.nodup_range, by intro v hv; rw [List.mem_range] at hv; omega, by simp, H.out.1, H.out.2⟩
      clear H
      go_upto_block 2 with (fail)
      go_cut [12] (fun _ wr => ∃ vs, KI K w ad k g gl vs vs wr)
      case first =>
        go_wp2_with fail
        go_loopw [12] (fun s wr' => ∃ (i : Nat) (vs : List Nat), i ≤ 100 ∧ s = .int .i64 i ∧ KI K w ad k g gl vs vs wr') (fun s _ => 100 - (intOf s).toNat)
        case atStart => exact ⟨0, _, by omega, rfl, HI.out⟩
        case round =>
          clear HI
          obtain ⟨i, vs, hi, rfl, hI⟩ := hrel
          have H := hide hI
          clear hI
          by_cases hil : i < len
          · by_cases hi1 : i < 100
            · obtain ⟨S, hnd, hlt, hle, hR, hC⟩ := H.out
              have HN := hide (And.intro hnd (And.intro hlt hle))
              have HB := hide (And.intro hR hC)
              clear hnd hlt hle hR hC H
              go_wp2_with fail
              refine (Len_calls HB.out.1).mono ?_
              rintro e w4 ⟨rfl, hf⟩
              rw [List.length_map]
              have H4 := hide (And.intro (HB.out.1.fr0 hf) (HB.out.2.fr0 hf))
              clear hf HB
              by_cases hv : 0 < vs.length
              · obtain ⟨x, hx⟩ : ∃ x, l[i]? = some x := ⟨l[i]'(by have := Hl.out; omega), by simp⟩
                obtain ⟨bA, oA, rfl, hbA, hcA⟩ := Hr.out.at_ encI_len hx Hl.out
                have hbw := H4.out.2.fr.below (B := w.heap.size) (by simp) (Nat.le_refl _)
                have a0 := (hbw.cell (p := ⟨bA, oA + (i * 1 + 0), none⟩) hbA).trans (hcA 0 (.int .i64 x) rfl)
                rw [Nat.add_zero, Nat.mul_one] at a0
                have hsz := H4.out.2.fr.size
                have lbA : bA < w4.heap.size := by omega
                have n1 : w4.heap.size ≠ bA := by omega
                have n2 := n1.symm
                obtain ⟨m, hm⟩ : ∃ m, m = vs.length := ⟨_, rfl⟩
                rw [← hm] at hv ⊢
                obtain ⟨ux, hux, hux1⟩ := u64_nat x
                obtain ⟨j, hj⟩ : ∃ j, j = ux % m := ⟨_, rfl⟩
                have hjm : j < m := by rw [hj]; exact Nat.mod_lt _ hv
                have hm100 : m ≤ 100 := by have := HN.out.2.2; omega
                have hjt : ((ux : Int)).tmod (m : Int) = (j : Int) := by rw [hj, Int.tmod_eq_emod_of_nonneg (by omega)]; rfl
                have hje : (ux : Int) % (m : Int) = (j : Int) := by rw [hj]; rfl
                have hwm : IntKind.u64.wrap (m : Int) = m := by rw [IntKind.wrap_u64]; omega
                have hwj : IntKind.u64.wrap (j : Int) = j := by rw [IntKind.wrap_u64]; omega
                have hwj' : IntKind.i64.wrap (j : Int) = j := IntWalk.i64_in _ (by omega)
                obtain ⟨v, hvj⟩ : ∃ v, vs[j]? = some v := ⟨vs[j]'(by omega), by simp⟩
                obtain ⟨q, hq⟩ : ∃ q, vs[m - 1]? = some q := ⟨vs[m - 1]'(by omega), by simp⟩
                have i0 : (0 : Int) ≤ (i : Int) := by omega
                have i1 : (i : Int) < (len : Int) := by omega
                have m0 : (0 : Int) < (m : Int) := by omega
                have mne : (m : Int) ≠ 0 := by omega
                have mz : ((m : Int) == 0) = false := by simp; omega
                have mnn : m ≠ 0 := by omega
                have mzn : (m == 0) = false := by simp; omega
                have a00 := hcA 0 (.int .i64 x) rfl
                rw [Nat.add_zero, Nat.mul_one] at a00
                have HA0 := hide a00
                have hps : (vs.map kP).length = m - 1 + 1 := by rw [List.length_map]; omega
                have Hm := hide (And.intro hm (And.intro hvj (And.intro hq (And.intro hj hps))))
                clear hm hvj hq hj hx hcA hbw a00 hps
                go_upto_region 18 with (fail)
                go_cut [13, 14] (fun v13 v14 w' => ∃ b13, v13 = .pointer (some ⟨b13, 0, none⟩) ∧ v14 = .nilIface ∧ ColR w.heap.size w' g 5 1 (((vs.map kP).set j (kP q)).take (m - 1)) S ∧ Cx K w.heap.size ad w w' S [(b13, 35, boxP (kP v)), (gl, 30, leftA vs)])
                case first =>
                  have Hcol : Hid (ColR w.heap.size w4.drew g 5 1 (vs.map kP) S ∧ Cx K w.heap.size ad w w4.drew S [(gl, 30, leftA vs)]) := hide ⟨H4.out.1.fr0 ((Fr.refl [] _).drew), H4.out.2.drew⟩
                  go_region_held3 (fun w' => w'.cell? ⟨bA, oA + i, none⟩ = some (.int .i64 x))
                    (first | go_keep | with_reducible exact arg_keep HA0.out hbA C6.out.fr | with_reducible exact arg_keep HA0.out hbA ((C6.out.fr).alloc _) | with_reducible exact arg_keep HA0.out hbA (Fr.set6 (C6.out.fr) (by first | assumption | (simp; omega)) _ _ _ _ _ _) | with_reducible exact arg_keep HA0.out hbA C5.out.fr | with_reducible exact arg_keep HA0.out hbA ((C5.out.fr).alloc _) | with_reducible exact arg_keep HA0.out hbA (Fr.set6 (C5.out.fr) (by first | assumption | (simp; omega)) _ _ _ _ _ _))
                    (first
                      | (go_at_call 10; ((with_reducible refine (Len_calls ((H4.out.1.alloc (.cells #[.int .i64 0, .int .i64 0, .int .i64 0, .int .i64 0, .int .i64 0, .int .i64 0] 35)).fr0 ((Fr.refl [] _).drew))).mono ?_)); rw [List.length_map, ← Hm.out.1]; rintro e w5 ⟨rfl, hf5⟩; have R5 := hide (((H4.out.1.alloc (.cells #[.int .i64 0, .int .i64 0, .int .i64 0, .int .i64 0, .int .i64 0, .int .i64 0] 35)).fr0 ((Fr.refl [] _).drew)).fr0 hf5); have C5 := hide (((H4.out.2.alloc 35 #[.int .i64 0, .int .i64 0, .int .i64 0, .int .i64 0, .int .i64 0, .int .i64 0]).drew).fr0 hf5); have tokA : True := trivial; clear hf5)
                      | (go_at_call 10; ((with_reducible refine (Len_calls Hcol.out.1).mono ?_)); rw [List.length_map, ← Hm.out.1]; rintro e w5 ⟨rfl, hf5⟩; have R5 := hide (Hcol.out.1.fr0 hf5); have C5 := hide (Hcol.out.2.fr0 hf5); clear hf5)
                      | (go_at_call 11; have tk := tokA; ((with_reducible refine (Take_ok R5.out (by omega) (by omega) (by rw [Hm.out.2.2.2.2]; omega) (last := m - 1) (n := j) (p := kP v) (q := kP q) (kP_get Hm.out.2.1) Hm.out.2.2.2.2 (kP_get Hm.out.2.2.1)).mono ?_)); rintro e w6 ⟨rfl, hr6, hf6⟩; simp only [encP, boxP, kP]; have R6 := hide hr6; have C6 := hide (C5.out.same hf6); have hsz5 := C5.out.fr.size; clear hr6 hf6; (have hb6 := C6.out.blk (b := w4.heap.size) (t := 35) (cs := #[.int .i64 0, .int .i64 0, .int .i64 0, .int .i64 0, .int .i64 0, .int .i64 0]) (by simp)); obtain ⟨r0, r1, r2, r3, r4, r5⟩ := blk6 hb6; have fz := hb6.frozen; have lz := hb6.lt; clear hb6)
                      | (go_at_call 11; ((with_reducible refine (Take_ok (R5.out.alloc (.cells #[.int .i64 0, .int .i64 0, .int .i64 0, .int .i64 0, .int .i64 0, .int .i64 0] 35)) (by omega) (by omega) (by rw [Hm.out.2.2.2.2]; omega) (last := m - 1) (n := j) (p := kP v) (q := kP q) (kP_get Hm.out.2.1) Hm.out.2.2.2.2 (kP_get Hm.out.2.2.1)).mono ?_)); rintro e w6 ⟨rfl, hr6, hf6⟩; simp only [encP, boxP, kP]; have tokB : True := trivial; have R6 := hide hr6; have C6 := hide ((C5.out.alloc 35 #[.int .i64 0, .int .i64 0, .int .i64 0, .int .i64 0, .int .i64 0, .int .i64 0]).same hf6); have hsz5 := C5.out.fr.size; clear hr6 hf6; (have hb6 := C6.out.blk (b := w5.heap.size) (t := 35) (cs := #[.int .i64 0, .int .i64 0, .int .i64 0, .int .i64 0, .int .i64 0, .int .i64 0]) (by simp)); obtain ⟨r0, r1, r2, r3, r4, r5⟩ := blk6 hb6; have fz := hb6.frozen; have lz := hb6.lt; clear hb6)
                      | (go_at_call 11; ((with_reducible refine (Take_ok R5.out (by omega) (by omega) (by rw [Hm.out.2.2.2.2]; omega) (last := m - 1) (n := j) (p := kP v) (q := kP q) (kP_get Hm.out.2.1) Hm.out.2.2.2.2 (kP_get Hm.out.2.2.1)).mono ?_)); rintro e w6 ⟨rfl, hr6, hf6⟩; simp only [encP, boxP, kP]; have tokC : True := trivial; have R6 := hide hr6; have C6 := hide (C5.out.same hf6); have hsz5 := C5.out.fr.size; clear hr6 hf6))
                  all_goals
                    go_wp2_with fail
                    go_meet
                    first
                      | (have t := tokA; have q := cx_set6 C6.out (by omega) (by decide) (.int .i64 5) (.int .i64 v) (.int .i64 0) (.int .i64 0) (.int .i64 0) (.int .i64 0); exact ⟨_, rfl, rfl, q.2 R6.out, q.1⟩)
                      | (have t := tokB; have q := cx_set6 C6.out (by omega) (by decide) (.int .i64 5) (.int .i64 v) (.int .i64 0) (.int .i64 0) (.int .i64 0) (.int .i64 0); exact ⟨_, rfl, rfl, q.2 R6.out, q.1⟩)
                      | (have t := tokC; exact ⟨_, rfl, rfl, R6.out.alloc _, C6.out.alloc _ _⟩)
                case rest =>
                  obtain ⟨b13, rfl, rfl, hR, hC⟩ := hcut
                  rw [swap_map] at hR
                  obtain ⟨hm, hvj, hq, hj, hps⟩ := Hm.out
                  obtain ⟨hnd2, hmem⟩ := swap_facts hvj (by omega) hq HN.out.1
                  have hvn := HN.out.2.1 v (List.mem_of_getElem? hvj)
                  have hb1 := hC.blk (b := b13) (t := 35) (cs := boxP (kP v)) (by simp)
                  have hb2 := hC.blk (b := gl) (t := 30) (cs := leftA vs) (by simp)
                  have hgS := (hC.loc (gl, 30, leftA vs) (by simp)).2
                  have hin : decide (v ∈ vs) = true := by simpa using List.mem_of_getElem? hvj
                  have c1 := hb1.at_ 1 (v := .int .i64 v) rfl
                  have c2 := hb2.at_ v (leftA_get vs (by omega))
                  rw [hin] at c2
                  have f2 := hb2.frozen
                  have l2 := hb2.lt
                  have v0 : (0 : Int) ≤ (v : Int) := by omega
                  have v1 : (v : Int) < (k : Int) := by omega
                  have v2 : (v : Int) < 101 := by omega
                  have H9 := hide (And.intro hR (And.intro hC (And.intro hb2 (And.intro hgS (And.intro hnd2 (And.intro hmem (And.intro hvn hm)))))))
                  clear hR hC hb1 hb2 hgS hnd2 hmem hm hvj hq hj hps hin H4 hjt hje hwm hwj hwj' hux hux1 a0 mz mne mnn mzn
                  go_wp2_with fail
                  go_roundw
                  case rel =>
                    obtain ⟨hR, hC, hb2, hgS, hnd2, hmem, hvn, hm⟩ := H9.out
                    have hset : (leftA vs).setIfInBounds v (.bool false) = leftA ((vs.set j q).take (m - 1)) := leftA_put false (fun x _ => by
                      rw [hmem]
                      by_cases hx : x = v
                      · simp [hx]
                      · simp [hx])
                    have hb5 := hb2.set_ v (.bool false)
                    rw [hset] at hb5
                    refine ⟨i + 1, _, by omega, by go_num, S, hnd2, fun x hx => HN.out.2.1 x ((hmem x).1 hx).1, by rw [List.length_take, List.length_set]; have := HN.out.2.2; omega, ?_, ?_⟩
                    · refine ColR.fr hR ((Fr.refl [gl] _).setCell (p := ⟨gl, v, none⟩) (by simp) _) ?_
                      intro b hb hmm
                      rw [List.mem_singleton] at hmm
                      subst hmm
                      exact hgS hb
                    · exact (hC.none.go2 (T := [gl]) ((Fr.refl [gl] _).setCell (p := ⟨gl, v, none⟩) (by simp) (.bool false)) (by
                        intro b hb
                        rw [List.mem_singleton] at hb
                        subst hb
                        exact HgB.out) (by
                        intro b hb hmm
                        rw [List.mem_singleton] at hmm
                        subst hmm
                        exact hgS hb)).more hb5 hgS
                  case measure => simp [intOf]; omega
              · go_wp2_with fail
                go_meet
                exact ⟨vs, S, HN.out.1, HN.out.2.1, HN.out.2.2, H4.out.1, H4.out.2⟩
            · go_wp2_with fail
              go_meet
              exact ⟨vs, H.out⟩
          · go_wp2_with fail
            go_meet
            exact ⟨vs, H.out⟩
      case rest =>
        obtain ⟨vs, S, hnd, hlt, hle, hR, hC⟩ := hcut
        clear HI
        have HN := hide (And.intro hnd (And.intro hlt hle))
        have H := hide (And.intro hR hC)
        clear hnd hlt hle hR hC
        have hvl : vs.length ≤ 100 := by have := HN.out.2.2; omega
        go_wp2_with fail
        go_loopw [15] (fun s wr' => ∃ (i : Nat), i ≤ vs.length ∧ s = .int .i64 i ∧ ColR w.heap.size wr' g 5 1 (vs.map kP) S ∧ Cx K w.heap.size ad w wr' S [(gl, 30, leftA (vs.drop i))]) (fun s _ => vs.length - (intOf s).toNat)
        case atStart => exact ⟨0, by omega, rfl, H.out⟩
        case round =>
          clear H
          obtain ⟨i, hi, rfl, hR, hC⟩ := hrel
          have H := hide (And.intro hR hC)
          clear hR hC
          go_wp2_with fail
          refine (Len_calls H.out.1).mono ?_
          rintro e w4 ⟨rfl, hf⟩
          rw [List.length_map]
          have H4 := hide (And.intro (H.out.1.fr0 hf) (H.out.2.fr0 hf))
          clear hf H
          by_cases hil : i < vs.length
          · obtain ⟨v, hv⟩ : ∃ v, vs[i]? = some v := ⟨vs[i]'hil, by simp⟩
            have hvk := HN.out.2.1 v (List.mem_of_getElem? hv)
            have Hv := hide hv
            clear hv
            go_wp2_with fail
            refine (Row_ok H4.out.1 (by omega) (by omega) (by simp; omega) (kP_get Hv.out)).mono ?_
            rintro e w5 ⟨rfl, hf⟩
            simp only [encP, boxP, kP]
            obtain ⟨hdm, hmem⟩ := drop_mem Hv.out HN.out.1
            have hC5 := (H4.out.2.fr0 hf)
            have hb2 := hC5.blk (b := gl) (t := 30) (cs := leftA (vs.drop i)) (by simp)
            have hgS := (hC5.loc (gl, 30, leftA (vs.drop i)) (by simp)).2
            have hin : decide (v ∈ vs.drop i) = true := by simpa using hdm
            have c2 := hb2.at_ v (leftA_get (vs.drop i) (by omega))
            rw [hin] at c2
            have f2 := hb2.frozen
            have l2 := hb2.lt
            have n2 : w5.heap.size ≠ gl := by omega
            have n2' := n2.symm
            have v0 : (0 : Int) ≤ (v : Int) := by omega
            have v2 : (v : Int) < 101 := by omega
            have H5 := hide (And.intro (H4.out.1.fr0 hf) (And.intro hC5 (And.intro hb2 (And.intro hgS hmem))))
            clear hf hC5 hb2 hgS hmem hdm hin H4
            go_wp2_with fail
            go_roundw
            case rel =>
              obtain ⟨hR, hC, hb2, hgS, hmem⟩ := H5.out
              have hset : (leftA (vs.drop i)).setIfInBounds v (.bool false) = leftA (vs.drop (i + 1)) := leftA_put false (fun x _ => by
                rw [hmem]
                by_cases hx : x = v
                · simp [hx]
                · simp [hx])
              have hb5 := hb2.set_ v (.bool false)
              rw [hset] at hb5
              refine ⟨i + 1, by omega, by go_num, ?_, ?_⟩
              · refine (ColR.fr hR ((Fr.refl [gl] _).setCell (p := ⟨gl, v, none⟩) (by simp) _) ?_).alloc _
                intro b hb hmm
                rw [List.mem_singleton] at hmm
                subst hmm
                exact hgS hb
              · exact ((hC.none.go2 (T := [gl]) ((Fr.refl [gl] _).setCell (p := ⟨gl, v, none⟩) (by simp) (.bool false)) (by
                  intro b hb
                  rw [List.mem_singleton] at hb
                  subst hb
                  exact HgB.out) (by
                  intro b hb hmm
                  rw [List.mem_singleton] at hmm
                  subst hmm
                  exact hgS hb)).more hb5 hgS).fr0 ((Fr.refl [] _).alloc _)
            case measure => simp [intOf]; omega
          · have hie : vs.drop i = [] := List.drop_eq_nil_of_le (by omega)
            rw [hie] at H4
            have hb2 := H4.out.2.blk (b := gl) (t := 30) (cs := leftA []) (by simp)
            have HB := hide hb2
            have hfin := hide (H4.out.2.fr.below (B := w.heap.size) (by simp) (Nat.le_refl _))
            clear hb2 H4 hie
            go_wp2_with fail
            go_loopw [18] (fun s wr' => ∃ (r : Nat), r ≤ k ∧ s = .int .i64 r ∧ w4 = wr') (fun s _ => k - (intOf s).toNat)
            case atStart => exact ⟨0, by omega, rfl, rfl⟩
            case round =>
              obtain ⟨r, hr, rfl, rfl⟩ := hrel
              by_cases hrk : r < k
              · have c2 := HB.out.at_ r (leftA_get [] (by omega))
                rw [show decide (r ∈ ([] : List Nat)) = false from by simp] at c2
                have r0 : (0 : Int) ≤ (r : Int) := by omega
                have r2 : (r : Int) < 101 := by omega
                go_wp2_with fail
                go_roundw
                case rel => exact ⟨r + 1, by omega, by go_num, trivial⟩
                case measure => simp [intOf]; omega
              · go_wp2_with fail
                go_ret
                exact ⟨rfl, hfin.out⟩
end Go.Proofs.YtgifeligogjfiaaDoor

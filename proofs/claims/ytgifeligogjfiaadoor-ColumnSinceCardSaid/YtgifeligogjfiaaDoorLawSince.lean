/- ColumnSince: the walk of the law. -/
import Derived.Test.YtgifeligogjfiaaDoorAwake
import Derived.Test.YtgifeligogjfiaaDoorInts
import Derived.Test.YtgifeligogjfiaaDoorZeros
namespace Go.Proofs.YtgifeligogjfiaaDoor
open Go.RowKit

def zs61 : Array Value := Array.replicate 61 (.int .i64 0)
theorem built61 : Tryd.prog.built 40 [] = some zs61 := by kernel_rfl
theorem info61 : (Tryd.prog.info? 40).map (fun i => (i.zero, i.size)) = some (some (.agg zs61), zs61.size) := by kernel_rfl
theorem one61 : zs61.all (·.oneCell') = true := by kernel_rfl

/-- the array of the last changes -/
def lastA (ps : List Pt) : Array Value := (ints (ps.map (·.t) ++ List.replicate (61 - ps.length) 0)).toArray
theorem lastA_start {n : Nat} (hn : n ≤ 61) : lastA (List.replicate n zP) = zs61 := by
  unfold lastA zs61 ints
  rw [List.map_replicate, List.length_replicate, show zP.t = 0 from rfl, List.replicate_append_replicate, Nat.add_sub_cancel' hn, List.map_replicate, List.toArray_replicate]
theorem lastA_get {ps : List Pt} {k : Nat} {p : Pt} (h : ps[k]? = some p) : (lastA ps)[k]? = some (.int .i64 p.t) := by
  have hk : k < ps.length := (List.getElem?_eq_some_iff.1 h).1
  unfold lastA
  rw [List.getElem?_toArray]
  refine ints_get ?_
  rw [List.getElem?_append_left (by simpa using hk)]
  simp [h]
theorem lastA_set {ps : List Pt} {k : Nat} (hk : k < ps.length) (q : Pt) : (lastA ps).setIfInBounds k (.int .i64 q.t) = lastA (ps.set k q) := by
  unfold lastA ints
  rw [List.setIfInBounds_toArray, List.length_set]
  congr 1
  rw [List.map_set, List.map_append, List.map_append, List.set_append_left _ _ (by simpa using hk), List.map_set]
theorem since_pre (ps : List Pt) (f : Int) {i n : Nat} (h : i ≤ n) : ∃ r, sinceN ps f n = sinceN ps f i ++ r := by
  unfold sinceN
  obtain ⟨d, rfl⟩ : ∃ d, n = i + d := ⟨n - i, by omega⟩
  rw [List.range_add, List.filter_append, List.map_append]
  exact ⟨_, rfl⟩
theorem since_at {ps : List Pt} {f : Int} {i : Nat} {p : Pt} (hp : ps[i]? = some p) (ht : f ≤ p.t) : (sinceL ps f)[(sinceN ps f i).length]? = some (i : Int) := by
  have hi : i < ps.length := (List.getElem?_eq_some_iff.1 hp).1
  obtain ⟨r, hr⟩ := since_pre ps f (i := i + 1) (n := ps.length) hi
  have h1 := since_snoc hp f
  rw [if_pos ht] at h1
  unfold sinceL
  rw [hr, h1, List.append_assoc, List.getElem?_append_right (Nat.le_refl _)]
  simp

set_option maxRecDepth 100000 in
set_option maxHeartbeats 8000000 in
theorem since_walk {K : List Nat} {w : World} {ad : Nat → Addr} (hs : Sents K w.heap.size w ad) (h1 : 1 ∈ K) (h7 : 7 ∈ K) (n0 s0 : Int) (A : Option Addr) (len c : Nat) (l : List Int) (hl : l.length = len) (hlen : len ≤ maxLen)
    (hr : Reads w w.heap.size 1 A len (l.flatMap encI)) :
    Calls Tryd.prog 4 #[.int .i64 n0, .slice A len c, .int .i64 s0] w fun e w' => e = .returned (.bool true) ∧ Below w.heap.size w w' := by
  unfold maxLen at hlen
  obtain ⟨u, hu, hu1⟩ := u64_nat n0
  have C := hide (Cx.start hs)
  have Ha := hide (awake_calls hs h1 h7)
  have Hr := hide hr
  have Hl := hide hl
  clear hs hr hl
  go_enter Tryd.func4, Tryd.ntmps4
  go_wp2_with fail
  refine Ha.out.mono ?_
  rintro e w1 ⟨rfl, hf⟩
  have C1 := hide (C.out.fr0 hf)
  clear hf C Ha
  go_wp2_with fail
  refine (new_ok C1.out.leW 0 1 (by omega) (by omega) (by omega) (by omega)).mono ?_
  rintro e w2 ⟨g, S2, rfl, hr, hf, hnew⟩
  have C2 := hide (C1.out.obj hf hnew fun b hb => (hr.lt b hb).1)
  rw [List.append_nil] at C2
  have R2 := hide hr
  clear hr hf hnew C1
  go_wp2_with (refine wpList_zeros rfl rfl rfl 40 37 10 rfl rfl rfl rfl rfl rfl zs61 built61 info61 one61 rfl rfl ?_)
  obtain ⟨n, hn, hn1, hn2⟩ : ∃ n : Nat, (n : Int) = 1 + (u : Int) % 60 ∧ 1 ≤ n ∧ n ≤ 60 := ⟨1 + u % 60, by omega, by omega, by omega⟩
  rw [← hn]
  have HA := hide (And.intro (R2.out.alloc (.cells zs61 40)) (C2.out.alloc 40 zs61))
  have HgB := hide C2.out.fr.size
  clear hn hu hu1 R2 C2
  generalize hgl : w2.heap.size = gl at *
  clear hgl
  generalize World.alloc _ _ = w3 at HA ⊢
  go_loopw [11] (fun s wr => ∃ (k : Nat) (S : List Nat), k ≤ n ∧ s = .int .i64 k ∧ ColR w.heap.size wr g 0 1 (List.replicate k zP) S ∧ Cx K w.heap.size ad w wr S [(gl, 40, zs61)]) (fun s _ => n - (intOf s).toNat)
  case atStart => exact ⟨0, S2, by omega, rfl, HA.out.1, HA.out.2⟩
  case round =>
    clear HA
    obtain ⟨k, S, hk, rfl, hR, hC⟩ := hrel
    have H := hide (And.intro hR hC)
    clear hR hC
    by_cases hkn : k < n
    · go_wp2_with fail
      refine (push_ok H.out.1 H.out.2.leW (by omega) (by omega) zP (by decide) (by simp; omega)).mono ?_
      rintro e w4 ⟨rfl, S', hr, hst⟩
      have H4 := hide (And.intro hr (H.out.2.stp hst fun b hb => (hr.lt b hb).1))
      clear hr hst H
      go_wp2_with fail
      go_roundw
      case rel =>
        refine ⟨k + 1, S', by omega, by go_num, ?_, H4.out.2⟩
        rw [List.replicate_succ']
        exact H4.out.1
      case measure => simp [intOf]; omega
    · obtain rfl : k = n := by omega
      have H0 : Hid (∃ ps : List Pt, ps.length = k ∧ ColR w.heap.size wr g 0 1 ps S ∧ Cx K w.heap.size ad w wr S [(gl, 40, lastA ps)]) := hide ⟨List.replicate k zP, by simp, H.out.1, by rw [lastA_start (by omega)]; exact H.out.2⟩
      clear H
      have hz : (k : Int) ≠ 0 := by omega
      have hk0 : (0 : Int) ≤ (k : Int) := by omega
      have hk6 : (k : Int) ≤ 60 := by omega
      go_wp2_with fail
      go_loopw [12] (fun s wr => ∃ (i : Nat), i ≤ 60 ∧ s = .int .i64 i ∧ ∃ (ps : List Pt) (S : List Nat), ps.length = k ∧ ColR w.heap.size wr g 0 1 ps S ∧ Cx K w.heap.size ad w wr S [(gl, 40, lastA ps)]) (fun s _ => 60 - (intOf s).toNat)
      case atStart =>
        obtain ⟨ps, h⟩ := H0.out
        exact ⟨0, by omega, rfl, ps, S, h⟩
      case round =>
        clear H0
        obtain ⟨i, hi, rfl, ps, S, hps, hR, hC⟩ := hrel
        have H := hide (And.intro hR hC)
        clear hR hC
        by_cases hc : i < len ∧ i < 60
        · obtain ⟨hil, hi6⟩ := hc
          · obtain ⟨x, hx⟩ : ∃ x, l[i]? = some x := ⟨l[i]'(by have := Hl.out; omega), by simp⟩
            obtain ⟨bA, oA, rfl, hbA, hcA⟩ := Hr.out.at_ encI_len hx Hl.out
            have hbw := H.out.2.fr.below (B := w.heap.size) (by simp) (Nat.le_refl _)
            have a0 := (hbw.cell (p := ⟨bA, oA + (i * 1 + 0), none⟩) hbA).trans (hcA 0 (.int .i64 x) rfl)
            rw [Nat.add_zero, Nat.mul_one] at a0
            obtain ⟨ux, hux, hux1⟩ := u64_nat x
            have hj : ux % k < k := Nat.mod_lt _ (by omega)
            obtain ⟨q, hq⟩ : ∃ q, ps[ux % k]? = some q := ⟨ps[ux % k]'(by omega), by simp⟩
            have i0 : (0 : Int) ≤ (i : Int) := by omega
            have i1 : (i : Int) < (len : Int) := by omega
            have i6 : (i : Int) < 60 := by omega
            have hm0 : 0 ≤ (ux : Int) % (k : Int) := Int.emod_nonneg _ hz
            have hm1 : (ux : Int) % (k : Int) < 61 := by have := Int.emod_lt_of_pos (ux : Int) (b := (k : Int)) (by omega); omega
            have Hq := hide (And.intro hq (And.intro hps hj))
            clear hx hcA hbw hq hps
            go_wp2_with fail
            rw [show (ux : Int) % (k : Int) = ((ux % k : Nat) : Int) from (Int.natCast_emod ux k).symm]
            clear hm0 hm1 hux hux1
            obtain ⟨hq, hps, hj⟩ := Hq.out
            generalize ux % k = j at *
            refine (Set_ok H.out.1 (by omega) (by omega) (by omega) hq (j := 0) (by omega) i (i + 1)).mono ?_
            rintro e w4 ⟨rfl, hr, hf⟩
            obtain ⟨pc, v0, v1, v2, v3, pt⟩ := q
            simp only [encP, boxP]
            have hC4 := H.out.2.same hf
            have hgS := (hC4.loc _ (by simp : (gl, 40, lastA ps) ∈ [(gl, 40, lastA ps)])).2
            have hb4 := hC4.blk (b := gl) (t := 40) (cs := lastA ps) (by simp)
            have c4 := hb4.at_ j (lastA_get hq)
            have f4 := hb4.frozen
            have l4 := hb4.lt
            have j0 : (0 : Int) ≤ (j : Int) := by omega
            have j1 : (j : Int) < 61 := by omega
            have n4 : w4.heap.size ≠ gl := by omega
            have n4' := n4.symm
            have H4 := hide (And.intro hr (And.intro hC4 (And.intro hb4 hgS)))
            clear hr hf hC4 hb4 hgS H Hq hq a0
            go_wp2_with fail
            go_roundw
            case rel =>
              obtain ⟨hr, hC4, hb4, hgS⟩ := H4.out
              refine ⟨i + 1, by omega, by go_num, ps.set j (setP ⟨pc, v0, v1, v2, v3, pt⟩ 0 i (i + 1)), S, by simp [hps], ?_, ?_⟩
              · refine (hr.fr ((Fr.refl [gl] w4).setCell (p := ⟨gl, j, none⟩) (by simp) _) ?_).alloc _
                intro b hb hm
                rw [List.mem_singleton] at hm
                subst hm
                exact hgS hb
              · have hset := lastA_set (ps := ps) (k := j) (by omega) (setP ⟨pc, v0, v1, v2, v3, pt⟩ 0 i (i + 1))
                rw [setP_t] at hset
                have hb5 := hb4.set_ j (.int .i64 ((i : Int) + 1))
                rw [hset] at hb5
                have hC5 := (hC4.none.go2 (T := [gl]) ((Fr.refl [gl] w4).setCell (p := ⟨gl, j, none⟩) (by simp) (.int .i64 ((i : Int) + 1))) (by
                  intro b hb
                  rw [List.mem_singleton] at hb
                  subst hb
                  exact HgB.out) (by
                  intro b hb hm
                  rw [List.mem_singleton] at hm
                  subst hm
                  exact hgS hb)).more hb5 hgS
                exact hC5.fr0 ((Fr.refl [] _).alloc _)
            case measure => simp [intOf]; omega
        · obtain ⟨us, hus, hus1⟩ := u64_nat s0
          by_cases hil : i < len
          all_goals
            try have hi6 : ¬ i < 60 := by omega
            clear hc
            go_wp2_with fail
            clear hus hus1
            generalize (us : Int) % 62 = sv
            refine (Since_ok H.out.1 (by omega) sv).mono ?_
            rintro e w5 ⟨v, rfl, hrow, hf⟩
            have hfin := hide ((H.out.2.fr0 hf).fr.below (B := w.heap.size) (by simp) (Nat.le_refl _))
            have hb5 := (H.out.2.fr0 hf).blk (b := gl) (t := 40) (cs := lastA ps) (by simp)
            have l5 := hb5.lt
            have hml : (sinceL ps sv).length ≤ k := by have := since_le ps sv ps.length; unfold sinceL; omega
            rcases row_form hrow with ⟨rfl, hm0, _⟩ | ⟨gv, cv, rfl, _, lv, hcv, hmv⟩
            · have HB := hide (And.intro hb5 (And.intro hrow (And.intro hm0 hps)))
              clear hb5 hrow hm0 H hf hil hps hi
              try clear hi6
              go_wp2_with fail
              go_loopw [18, 19] (fun s18 s19 wr' => ∃ (q : Nat), q ≤ k ∧ s19 = .int .i64 q ∧ s18 = .int .i64 ((0 : Nat) : Int) ∧ (sinceN ps sv q).length = 0 ∧ w5 = wr') (fun _ s _ => k - (intOf s).toNat)
              case atStart => exact ⟨0, by omega, rfl, rfl, rfl, rfl⟩
              case round =>
                obtain ⟨q, hq, rfl, rfl, hq0, rfl⟩ := hrel
                by_cases hqk : q < k
                · obtain ⟨y, hy⟩ : ∃ y, ps[q]? = some y := ⟨ps[q]'(by have := HB.out.2.2.2; omega), by simp⟩
                  have cy := HB.out.1.at_ q (lastA_get hy)
                  have hlt : y.t < sv := by
                    rcases Int.lt_or_le y.t sv with h | h
                    · exact h
                    · have := since_at hy h
                      rw [List.eq_nil_of_length_eq_zero HB.out.2.2.1] at this
                      simp at this
                  have hsn := since_snoc hy sv
                  rw [if_neg (by omega), List.append_nil] at hsn
                  have Hs := hide (And.intro hsn hq0)
                  have q0 : (0 : Int) ≤ (q : Int) := by omega
                  have q1 : (q : Int) < 61 := by omega
                  clear hsn hq0 hy
                  go_wp2_with fail
                  go_roundw
                  case rel => exact ⟨q + 1, by omega, by go_num, rfl, by rw [Hs.out.1]; exact Hs.out.2, trivial⟩
                  case measure => simp [intOf]; omega
                · clear hq0
                  go_wp2_with fail
                  go_ret
                  exact ⟨rfl, hfin.out⟩
            · have HB := hide (And.intro hb5 (And.intro hrow hps))
              have hmm : (sinceL ps sv).length ≤ 100 := by omega
              obtain ⟨m, hm⟩ : ∃ m, m = (sinceL ps sv).length := ⟨_, rfl⟩
              rw [← hm] at hmm ⊢
              have Hm := hide hm
              clear hb5 hrow H hf hil hps hi hml hm hcv
              try clear hi6
              go_wp2_with fail
              go_loopw [18, 19] (fun s18 s19 wr' => ∃ (q r : Nat), q ≤ k ∧ s19 = .int .i64 q ∧ s18 = .int .i64 r ∧ r = (sinceN ps sv q).length ∧ w5 = wr') (fun _ s _ => k - (intOf s).toNat)
              case atStart => exact ⟨0, 0, by omega, rfl, rfl, rfl, rfl⟩
              case round =>
                obtain ⟨q, r, hq, rfl, rfl, hr, rfl⟩ := hrel
                by_cases hqk : q < k
                · obtain ⟨y, hy⟩ : ∃ y, ps[q]? = some y := ⟨ps[q]'(by have := HB.out.2.2; omega), by simp⟩
                  have cy := HB.out.1.at_ q (lastA_get hy)
                  have hsn := since_snoc hy sv
                  have q0 : (0 : Int) ≤ (q : Int) := by omega
                  have q1 : (q : Int) < 61 := by omega
                  have hrq := since_le ps sv q
                  by_cases hlt : y.t < sv
                  · rw [if_neg (by omega), List.append_nil] at hsn
                    have Hs := hide (And.intro hsn hr)
                    clear hsn hr hy hrq
                    go_wp2_with fail
                    go_roundw
                    case rel => exact ⟨q + 1, r, by omega, by go_num, rfl, by rw [Hs.out.1]; exact Hs.out.2, trivial⟩
                    case measure => simp [intOf]; omega
                  · have hle : sv ≤ y.t := by omega
                    rw [if_pos hle] at hsn
                    have hat := since_at hy hle
                    rw [← hr] at hat hrq
                    have hrm : r < m := by rw [Hm.out]; exact (List.getElem?_eq_some_iff.1 hat).1
                    have cl := row_cell HB.out.2.1 (i := r) (ints_get hat)
                    have r0 : (0 : Int) ≤ (r : Int) := by omega
                    have r1 : (r : Int) < (m : Int) := by omega
                    have Hs := hide (And.intro hsn hr)
                    clear hsn hr hy hat
                    go_wp2_with fail
                    go_roundw
                    case rel => exact ⟨q + 1, r + 1, by omega, by go_num, by go_num, by rw [Hs.out.1, List.length_append, ← Hs.out.2]; rfl, trivial⟩
                    case measure => simp [intOf]; omega
                · have hqe : q = k := by omega
                  have hrm : r = m := by rw [hr, Hm.out, hqe, ← HB.out.2.2]; rfl
                  subst hrm
                  clear hr hqe
                  go_wp2_with fail
                  go_ret
                  exact ⟨rfl, hfin.out⟩
end Go.Proofs.YtgifeligogjfiaaDoor

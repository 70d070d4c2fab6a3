/- BadgeBack: the walk of the law. -/
import Derived.Test.YtpipgkglacmoeaaDoorBAct
namespace Go.Proofs.YtpipgkglacmoeaaDoor
open Go.RowKit

def upto (k : Nat) : List Int := (List.range k).map fun q : Nat => (q : Int) + 1
def psA (p : Nat) : List (Int × Ent) := (List.range p).map fun q : Nat => ((q : Int) + 1, ((q : Int), 0))
def psB (p : Nat) (t : Int) (k : Nat) : List (Int × Ent) := (List.range k).map fun q : Nat => ((p : Int) + q + 1, (100 + (q : Int), t))
theorem upto_len (k : Nat) : (upto k).length = k := by simp [upto]
theorem upto_mem {k : Nat} {d : Int} : d ∈ upto k ↔ 1 ≤ d ∧ d ≤ k := by
  unfold upto
  rw [List.mem_map]
  constructor
  · rintro ⟨q, hq, rfl⟩
    rw [List.mem_range] at hq; omega
  · rintro ⟨h1, h2⟩
    exact ⟨(d - 1).toNat, by rw [List.mem_range]; omega, by omega⟩
theorem upto_succ (k : Nat) : upto (k + 1) = upto k ++ [(k : Int) + 1] := by simp [upto, List.range_succ]
theorem psA_succ (k : Nat) : psA (k + 1) = psA k ++ [((k : Int) + 1, ((k : Int), 0))] := by simp [psA, List.range_succ]
theorem psB_succ (p : Nat) (t : Int) (k : Nat) : psB p t (k + 1) = psB p t k ++ [((p : Int) + k + 1, (100 + (k : Int), t))] := by simp [psB, List.range_succ]
theorem ins_last {x : Int} : ∀ {ds : List Int}, (∀ d ∈ ds, d < x) → insL x ds = ds ++ [x]
  | [], _ => rfl
  | d :: r, h => by
    unfold insL
    rw [if_pos (h d (by simp)), ins_last fun d hd => h d (by simp [hd])]; rfl
theorem drop_last {x : Int} {ds : List Int} (h : x ∉ ds) : dropD (ds ++ [x]) x = ds := by
  unfold dropD
  rw [List.filter_append]
  simp only [List.filter_cons, List.filter_nil]
  simp only [ne_eq, not_true_eq_false, decide_false, Bool.false_eq_true, if_false, List.append_nil]
  exact List.filter_eq_self.mpr fun d hd => by
    have : d ≠ x := fun e => h (e ▸ hd)
    simpa using this
theorem dropP_last {x : Int} {e : Ent} {ps : List (Int × Ent)} (h : x ∉ ps.map (·.1)) : dropP (ps ++ [(x, e)]) x = ps := by
  unfold dropP
  rw [List.filter_append]
  simp only [List.filter_cons, List.filter_nil]
  simp only [ne_eq, not_true_eq_false, decide_false, Bool.false_eq_true, if_false, List.append_nil]
  exact List.filter_eq_self.mpr fun d hd => by
    have : d.1 ≠ x := fun e => h (List.mem_map.mpr ⟨d, hd, e⟩)
    simpa using this
theorem id_none_of {ps : List (Int × Ent)} {e : Ent} (h : e ∉ ps.map (·.2)) : idOf ps e = none := by
  cases hc : idOf ps e with
  | none => rfl
  | some i => exact absurd (List.mem_map.mpr ⟨_, id_some hc, rfl⟩) h
theorem own_none_of {ps : List (Int × Ent)} {i : Int} (h : i ∉ ps.map (·.1)) : ownOf ps i = none := by
  cases hc : ownOf ps i with
  | none => rfl
  | some e => exact absurd (List.mem_map.mpr ⟨_, own_some hc, rfl⟩) h
theorem psA_ent {p : Nat} {e : Ent} (h : e ∈ (psA p).map (·.2)) : e.2 = 0 ∧ e.1 < p := by
  simp only [psA, List.mem_map, List.mem_range] at h
  obtain ⟨x, ⟨q, hq, rfl⟩, rfl⟩ := h
  exact ⟨rfl, by show (q : Int) < p; omega⟩
theorem psB_ent {p : Nat} {t : Int} {k : Nat} {e : Ent} (h : e ∈ (psB p t k).map (·.2)) : e.1 < 100 + k ∧ 100 ≤ e.1 := by
  simp only [psB, List.mem_map, List.mem_range] at h
  obtain ⟨x, ⟨q, hq, rfl⟩, rfl⟩ := h
  exact ⟨by show 100 + (q : Int) < _; omega, by show 100 ≤ 100 + (q : Int); omega⟩
section
variable {K : List Nat} {ad : Nat → Addr} {w0 w w' : World} {g : Nat} {L : Loc}
theorem CB.cast {ps ps' : List (Int × Ent)} {ds ds' : List Int} {nx nx' : Int} (h : CB K ad w0 w g ps ds nx L) (h1 : ps = ps') (h2 : ds = ds') (h3 : nx = nx') : CB K ad w0 w g ps' ds' nx' L := by
  subst h1; subst h2; subst h3; exact h
end
set_option maxRecDepth 100000 in
set_option maxHeartbeats 16000000 in
theorem back_walk {K : List Nat} {w : World} {ad : Nat → Addr} (hs : Sents K w.heap.size w ad) (h1 : 1 ∈ K) (h6 : 6 ∈ K) (h7 : 7 ∈ K) (h9 : 9 ∈ K) (f0 m0 : Int) :
    Calls Tryd.prog 4 #[.int .i64 f0, .int .i64 m0] w fun e w' => e = .returned (.bool true) ∧ Below w.heap.size w w' := by
  have C0 := Cx.start hs
  have HA := hide (awake_calls C0 h1 h6 h7 h9)
  have H0 := hide C0
  clear hs C0
  obtain ⟨uf, huf, -⟩ := u64_nat f0
  obtain ⟨um, hum, -⟩ := u64_nat m0
  have hp61 : uf % 61 < 61 := Nat.mod_lt _ (by omega)
  have hn61 : um % 61 < 61 := Nat.mod_lt _ (by omega)
  have nz : (61 : Int) ≠ 0 := by omega
  have ef : (uf : Int) % 61 = ((uf % 61 : Nat) : Int) := by omega
  have em : (um : Int) % 61 = ((um % 61 : Nat) : Int) := by omega
  generalize uf % 61 = p at *
  generalize um % 61 = n at *
  go_enter Tryd.func4, Tryd.ntmps4
  go_wp2_with fail
  refine HA.out.mono ?_
  rintro e w1 ⟨rfl, hf⟩
  have C1 := hide (H0.out.fr0 hf)
  clear hf HA H0
  go_wp2_with fail
  refine (CB.new C1.out).mono ?_
  rintro e w2 ⟨g, rfl, hc⟩
  have C2 : Hid (CB K ad w w2 g (psA 0) (upto 0) ((0 : Nat) + 1) []) := hide hc
  clear hc C1
  go_wp2_with fail
  clear huf hum nz ef em
  go_loopw [8] (fun s8 wr => ∃ i : Nat, i ≤ p ∧ s8 = .int .i64 i ∧ CB K ad w wr g (psA i) (upto i) (i + 1) []) (fun s8 _ => p - (intOf s8).toNat)
  case atStart => exact ⟨0, by omega, rfl, C2.out⟩
  case round =>
    obtain ⟨i, hi, rfl, hc⟩ := hrel
    clear C2
    have H := hide hc
    clear hc
    by_cases hip : i < p
    · have i1 : (i : Int) < (p : Int) := by omega
      have HG := hide (H.out.give (by rw [upto_len]; omega) (e := ((i : Int), 0)) (id_none_of fun hm => by have := (psA_ent hm).2; simp only at this; omega) (by omega))
      simp only [encE] at HG
      go_wp2_with fail
      refine HG.out.mono ?_
      rintro e w3 ⟨rfl, hc⟩
      have H3 := hide (hc.cast (psA_succ i).symm (ds' := upto (i + 1)) (by rw [ins_last fun d hd => by have := (upto_mem.mp hd).2; omega, upto_succ]) (nx' := ((i + 1 : Nat) : Int) + 1) (by omega))
      clear hc
      go_wp2_with fail
      go_roundw
      case rel => exact ⟨i + 1, by omega, by go_num, H3.out⟩
      case measure => simp [intOf]; omega
    · obtain rfl : i = p := by omega
      have i1 : ¬ (i : Int) < (i : Int) := by omega
      go_wp2_with fail
      go_loopw [11] (fun s11 wr' => ∃ t : Nat, t ≤ 2 ∧ s11 = .int .i64 t ∧ CB K ad w wr' g (psA i) (upto i) (i + 1) []) (fun s11 _ => 2 - (intOf s11).toNat)
      case atStart => exact ⟨0, by omega, rfl, H.out⟩
      case round =>
        obtain ⟨t, ht, rfl, hc⟩ := hrel
        clear H
        have H := hide hc
        clear hc
        by_cases ht2 : t < 2
        · have t1 : (t : Int) < 2 := by omega
          go_wp2_with fail
          go_loopw [12] (fun s12 wr3 => ∃ k : Nat, k ≤ n ∧ s12 = .int .i64 k ∧ CB K ad w wr3 g (psA i ++ psB i t k) (upto (i + k)) (i + k + 1) []) (fun s12 _ => n - (intOf s12).toNat)
          case atStart => exact ⟨0, by omega, rfl, H.out.cast (by simp [psB]) rfl (by omega)⟩
          case round =>
            obtain ⟨k, hk, rfl, hc⟩ := hrel
            clear H
            have H := hide hc
            clear hc
            by_cases hkn : k < n
            · have k1 : (k : Int) < (n : Int) := by omega
              have HG := hide (H.out.give (by rw [upto_len]; omega) (e := (100 + (k : Int), (t : Int))) (id_none_of fun hm => by
                rw [List.map_append, List.mem_append] at hm
                rcases hm with hm | hm
                · have := (psA_ent hm).2; simp only at this; omega
                · have := (psB_ent hm).1; simp only at this; omega) (by omega))
              simp only [encE] at HG
              go_wp2_with fail
              refine HG.out.mono ?_
              rintro e w3 ⟨rfl, hc⟩
              have H3 := hide (hc.cast (ps' := psA i ++ psB i t (k + 1)) (by rw [psB_succ, List.append_assoc]) (ds' := upto (i + (k + 1))) (by
                rw [ins_last fun d hd => by have := (upto_mem.mp hd).2; omega, ← Nat.add_assoc, upto_succ]
                congr 2) (nx' := (i : Int) + ((k + 1 : Nat) : Int) + 1) (by omega))
              clear hc
              go_wp2_with fail
              go_roundw
              case rel => exact ⟨k + 1, by omega, by go_num, H3.out⟩
              case measure => simp [intOf]; omega
            · obtain rfl : k = n := by omega
              have k1 : ¬ (k : Int) < (k : Int) := by omega
              go_wp2_with fail
              go_loopw [15] (fun s15 wr4 => ∃ q : Nat, q ≤ k ∧ s15 = .int .i64 ((q : Int) - 1) ∧ CB K ad w wr4 g (psA i ++ psB i t q) (upto (i + q)) (i + k + 1) []) (fun s15 _ => (intOf s15 + 1).toNat)
              case atStart => exact ⟨k, by omega, rfl, H.out⟩
              case round =>
                obtain ⟨q, hq, rfl, hc⟩ := hrel
                clear H
                have H := hide hc
                clear hc
                cases q with
                | zero =>
                  have q1 : ((0 : Nat) : Int) - 1 = -1 := by omega
                  rw [q1]
                  have hl : turnB (upto (i + 0)) ((i : Int) + 1) = false := by
                    unfold turnB
                    cases hcc : (upto (i + 0)).getLast? with
                    | none => rfl
                    | some d =>
                      have := (upto_mem.mp (List.mem_of_getLast? hcc)).2
                      simp; omega
                  have HT := hide (H.out.turn (by rw [upto_len]; omega) (next := (i : Int) + 1) (by omega) (by omega) hl)
                  go_wp2_with fail
                  refine HT.out.mono ?_
                  rintro e w3 ⟨rfl, hc⟩
                  have H3 := hide (hc.cast (ps' := psA i) (by simp [psB]) (ds' := upto i) rfl (nx' := (i : Int) + 1) rfl)
                  have HL := hide H3.out.len
                  rw [upto_len] at HL
                  clear hc HT
                  go_wp2_with fail
                  refine HL.out.mono ?_
                  rintro e w4 ⟨rfl, rfl⟩
                  go_wp2_with fail
                  refine (H3.out.next).mono ?_
                  rintro e w4 ⟨rfl, rfl⟩
                  go_wp2_with fail
                  go_roundw
                  case rel => exact ⟨t + 1, by omega, by go_num, H3.out⟩
                  case measure => simp [intOf]; omega
                | succ m =>
                  have q1 : ((m + 1 : Nat) : Int) - 1 = (m : Int) := by omega
                  rw [q1]
                  have q2 : (0 : Int) ≤ (m : Int) := by omega
                  have q3 : (m : Int) ≤ 60 := by omega
                  have q4 : (i : Int) ≤ 60 := by omega
                  have hmem : ((i : Int) + m + 1, ((100 + (m : Int), (t : Int)) : Ent)) ∈ psA i ++ psB i t (m + 1) := by
                    rw [psB_succ]; simp
                  have ho := own_of_mem H.out.good.ids hmem
                  have hnot : (i : Int) + m + 1 ∉ (psA i ++ psB i t m).map (·.1) := by
                    have := H.out.good.ids
                    rw [psB_succ, ← List.append_assoc, List.map_append, List.nodup_append] at this
                    exact fun hm => this.2.2 _ hm _ (by simp) rfl
                  have HD := hide (H.out.drop (by rw [upto_len]; omega) ho)
                  have Hn := hide hnot
                  have hne := fun W => neq_ent (100 + (m : Int), (t : Int)) (100 + (m : Int), (t : Int)) W
                  simp only [encE, decide_true, Bool.not_true] at HD hne
                  clear ho hmem hnot
                  go_wp2_with fail
                  refine HD.out.mono ?_
                  rintro e w3 ⟨rfl, hc⟩
                  have H3 := hide (hc.cast (ps' := psA i ++ psB i t m) (by rw [psB_succ, ← List.append_assoc, dropP_last Hn.out]) (ds' := upto (i + m)) (by
                    rw [← Nat.add_assoc, upto_succ, show ((i + m : Nat) : Int) + 1 = (i : Int) + m + 1 from by omega, drop_last fun hm => by have := (upto_mem.mp hm).2; omega]) rfl)
                  clear hc HD
                  go_wp2_with fail
                  go_roundw
                  case rel => exact ⟨m, by omega, rfl, H3.out.fr0 ((Fr.refl [] w3).alloc _)⟩
                  case measure => simp [intOf]
        · obtain rfl : t = 2 := by omega
          have t1 : ¬ ((2 : Nat) : Int) < 2 := by omega
          go_wp2_with fail
          go_ret
          exact ⟨rfl, H.out.fr.below (by simp) (Nat.le_refl _)⟩
end Go.Proofs.YtpipgkglacmoeaaDoor

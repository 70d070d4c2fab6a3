/- BadgeStays: the walk of the law. -/
import Derived.Test.YtpipgkglacmoeaaDoorBadgeN
import Derived.Test.YtpipgkglacmoeaaDoorLawBBack
namespace Go.Proofs.YtpipgkglacmoeaaDoor
open Go.RowKit

def psS (n : Nat) : List (Int × Ent) := (List.range n).map fun q : Nat => ((q : Int) + 1, ((q : Int) + 1, 1))
theorem psS_succ (k : Nat) : psS (k + 1) = psS k ++ [((k : Int) + 1, ((k : Int) + 1, 1))] := by simp [psS, List.range_succ]
theorem psS_mem {n : Nat} {i : Int} {e : Ent} : (i, e) ∈ psS n ↔ 1 ≤ i ∧ i ≤ n ∧ e = (i, 1) := by
  simp only [psS, List.mem_map, List.mem_range, Prod.mk.injEq]
  constructor
  · rintro ⟨q, hq, rfl, rfl⟩; exact ⟨by omega, by omega, rfl⟩
  · rintro ⟨h1, h2, rfl⟩
    exact ⟨(i - 1).toNat, by omega, by omega, by
      rw [Prod.mk.injEq]; exact ⟨by omega, rfl⟩⟩
theorem psS_ent {n : Nat} {e : Ent} (h : e ∈ (psS n).map (·.2)) : e.2 = 1 ∧ e.1 ≤ n := by
  obtain ⟨p, hp, rfl⟩ := List.mem_map.mp h
  obtain ⟨i, e⟩ := p
  obtain ⟨h1, h2, rfl⟩ := psS_mem.mp hp
  exact ⟨rfl, h2⟩
/-- the state behind the change -/
def psX (n : Nat) (k : Int) (e : Ent) : List (Int × Ent) := dropP (psS n) k ++ [(k, e)]
def dsX (n : Nat) (k : Int) : List Int := insL k (dropD (upto n) k)
theorem psX_own {n : Nat} {k : Int} {e : Ent} (hd : ((psX n k e).map (·.1)).Nodup) {i : Int} (h1 : 1 ≤ i) (h2 : i ≤ n) : ownOf (psX n k e) i = some (if i = k then e else (i, 1)) := by
  refine own_of_mem hd ?_
  unfold psX
  rw [List.mem_append]
  by_cases hik : i = k
  · subst hik; rw [if_pos rfl]; right; simp
  · rw [if_neg hik]; left
    unfold dropP
    rw [List.mem_filter]
    exact ⟨psS_mem.mpr ⟨h1, h2, rfl⟩, by simpa using hik⟩
theorem psX_id {n : Nat} {k : Int} {e : Ent} (he : e.2 ≠ 1) : idOf (psX n k e) (k, 1) = none := by
  refine id_none_of fun hm => ?_
  unfold psX at hm
  rw [List.map_append, List.mem_append] at hm
  rcases hm with hm | hm
  · obtain ⟨p, hp, hpe⟩ := List.mem_map.mp hm
    obtain ⟨i, e'⟩ := p
    unfold dropP at hp
    rw [List.mem_filter] at hp
    obtain ⟨-, -, rfl⟩ := psS_mem.mp hp.1
    simp only [Prod.mk.injEq] at hpe
    have := hp.2
    simp at this
    exact this hpe.1
  · simp only [List.map_cons, List.map_nil, List.mem_singleton] at hm
    exact he (by rw [← hm])
theorem last_ge {ds : List Int} (hs : ds.Pairwise (· < ·)) {x : Int} (hx : x ∈ ds) : turnB ds x = true := by
  cases hl : turnB ds x with
  | true => rfl
  | false => exact absurd (turn_pos hs hl x hx) (by omega)
section
variable {K : List Nat} {ad : Nat → Addr} {w0 w w' : World} {g : Nat} {ps ps' : List (Int × Ent)} {ds ds' : List Int} {nx nx' : Int} {L : Loc}
theorem st_keep (C : CB K ad w0 w g ps ds nx L) (h9 : 9 ∈ K) (b1 b2 : Nat) (x1 x2 y1 y2 : Int) (hm : (b1, 27, #[Value.int .i64 x1, Value.int .i64 x2]) ∈ L) (hm2 : (b2, 27, #[Value.int .i64 y1, Value.int .i64 y2]) ∈ L) :
    w.cell? ⟨b1, 0, none⟩ = some (.int .i64 x1) ∧ w.cell? ⟨b1, 1, none⟩ = some (.int .i64 x2) ∧ w.cell? ⟨b2, 0, none⟩ = some (.int .i64 y1) ∧ w.cell? ⟨b2, 1, none⟩ = some (.int .i64 y2) ∧ w.cell? ⟨0, 0, none⟩ = some (sv (ad 9)) :=
  ⟨(C.blk hm).at_ 0 rfl, (C.blk hm).at_ 1 rfl, (C.blk hm2).at_ 0 rfl, (C.blk hm2).at_ 1 rfl, C.glob h9⟩
theorem st_keep2 (C : CB K ad w0 w g ps ds nx L) (h1 : 1 ∈ K) (h2 : 2 ∈ K) (b1 : Nat) (x1 x2 : Int) (hm : (b1, 27, #[Value.int .i64 x1, Value.int .i64 x2]) ∈ L) :
    w.cell? ⟨b1, 0, none⟩ = some (.int .i64 x1) ∧ w.cell? ⟨b1, 1, none⟩ = some (.int .i64 x2) ∧ w.cell? ⟨1, 0, none⟩ = some (sv (ad 1)) ∧ w.cell? ⟨2, 0, none⟩ = some (sv (ad 2)) :=
  ⟨(C.blk hm).at_ 0 rfl, (C.blk hm).at_ 1 rfl, C.glob h1, C.glob h2⟩
end
set_option maxRecDepth 100000 in
set_option maxHeartbeats 16000000 in
theorem stays_walk {K : List Nat} {w : World} {ad : Nat → Addr} (hs : Sents K w.heap.size w ad) (h1 : 1 ∈ K) (h2 : 2 ∈ K) (h6 : 6 ∈ K) (h7 : 7 ∈ K) (h9 : 9 ∈ K) (m0 y0 : Int) (e1 e2 : Int) :
    Calls Tryd.prog 5 #[.int .i64 m0, .int .i64 y0, .agg #[.int .i64 e1, .int .i64 e2]] w fun e w' => e = .returned (.bool true) ∧ Below w.heap.size w w' := by
  have C0 := (Cx.start hs).alloc 27 #[.int .i64 e1, .int .i64 e2]
  have HA := hide (awake_calls C0 h1 h6 h7 h9)
  have H0 := hide C0
  clear hs C0
  obtain ⟨um, hum, -⟩ := u64_nat m0
  obtain ⟨uy, huy, -⟩ := u64_nat y0
  have hm60 : um % 60 < 60 := Nat.mod_lt _ (by omega)
  have nz : (60 : Int) ≠ 0 := by omega
  have em : (um : Int) % 60 = ((um % 60 : Nat) : Int) := by omega
  generalize um % 60 = n' at *
  obtain ⟨n, hn⟩ : ∃ n, n = n' + 1 := ⟨_, rfl⟩
  have hn60 : n ≤ 60 := by omega
  have hn1 : 1 ≤ n := by omega
  have en : 1 + (n' : Int) = (n : Int) := by omega
  have hun : IntKind.u64.wrap (n : Int) = (n : Int) := by
    show (n : Int) % 18446744073709551616 = n
    omega
  have nzn : (n : Int) ≠ 0 := by omega
  have hyn : uy % n < n := Nat.mod_lt _ (by omega)
  have ey : (uy : Int) % (n : Int) = ((uy % n : Nat) : Int) := (Int.natCast_emod uy n).symm
  generalize uy % n = k' at *
  obtain ⟨k, hk⟩ : ∃ k, k = k' + 1 := ⟨_, rfl⟩
  have ek : 1 + (k' : Int) = (k : Int) := by omega
  have hkn : k ≤ n := by omega
  have hk1 : 1 ≤ k := by omega
  clear hn hk
  go_enter Tryd.func5, Tryd.ntmps5
  go_wp2_with fail
  refine HA.out.mono ?_
  rintro e w1 ⟨rfl, hf⟩
  have C1 := hide (H0.out.fr0 hf)
  clear hf HA H0
  go_wp2_with fail
  refine (CB.new C1.out).mono ?_
  rintro e w2 ⟨g, rfl, hc⟩
  have C2 : Hid (CB K ad w w2 g (psS 0) (upto 0) ((0 : Nat) + 1) [(w.heap.size, 27, #[Value.int .i64 e1, Value.int .i64 e2])]) := hide hc
  clear hc C1 hum huy nz em hun nzn ey en ek hyn hm60
  go_wp2_with fail
  go_loopw [10] (fun s10 wr => ∃ i : Nat, i ≤ n ∧ s10 = .int .i64 ((i : Int) + 1) ∧ CB K ad w wr g (psS i) (upto i) (i + 1) [(w.heap.size, 27, #[Value.int .i64 e1, Value.int .i64 e2])]) (fun s10 _ => n + 1 - (intOf s10).toNat)
  case atStart => exact ⟨0, by omega, rfl, C2.out⟩
  case round =>
    obtain ⟨i, hi, rfl, hc⟩ := hrel
    clear C2
    have H := hide hc
    clear hc
    have i0 : (0 : Int) ≤ (i : Int) := by omega
    have i60 : (i : Int) ≤ 60 := by omega
    by_cases hin : i < n
    · have i1 : (i : Int) + 1 ≤ (n : Int) := by omega
      have HG := hide (H.out.give (by rw [upto_len]; omega) (e := ((i : Int) + 1, 1)) (id_none_of fun hm => by have := (psS_ent hm).2; simp only at this; omega) (by omega))
      simp only [encE] at HG
      go_wp2_with fail
      refine HG.out.mono ?_
      rintro e w3 ⟨rfl, hc⟩
      have H3 := hide (hc.cast (psS_succ i).symm (ds' := upto (i + 1)) (by rw [ins_last fun d hd => by have := (upto_mem.mp hd).2; omega, upto_succ]) (nx' := ((i + 1 : Nat) : Int) + 1) (by omega))
      clear hc HG
      go_wp2_with fail
      go_roundw
      case rel => exact ⟨i + 1, by omega, by go_num, H3.out⟩
      case measure => simp [intOf]; omega
    · obtain rfl : i = n := by omega
      have i1 : ¬ (i : Int) + 1 ≤ (i : Int) := by omega
      have b0 := (H.out.blk (b := w.heap.size) (t := 27) (cs := #[.int .i64 e1, .int .i64 e2]) (by simp)).at_ 0 (v := .int .i64 e1) rfl
      have b1 := (H.out.blk (b := w.heap.size) (t := 27) (cs := #[.int .i64 e1, .int .i64 e2]) (by simp)).at_ 1 (v := .int .i64 e2) rfl
      have lb := (H.out.blk (b := w.heap.size) (t := 27) (cs := #[.int .i64 e1, .int .i64 e2]) (by simp)).lt
      by_cases hg1 : e2 = 1
      · have f1 : (e2 == 1) = true := by simpa using hg1
        clear hg1
        go_wp2_with fail
        go_ret
        exact ⟨rfl, H.out.fr.below (by simp) (Nat.le_refl _)⟩
      have f1 : (e2 == 1) = false := by simpa using hg1
      have HD := hide (H.out.drop (by rw [upto_len]; omega) (id := (k : Int)) (e := ((k : Int), 1)) (own_of_mem H.out.good.ids (psS_mem.mpr ⟨by omega, by omega, rfl⟩)))
      simp only [encE] at HD
      go_wp2_with fail
      refine HD.out.mono ?_
      rintro e w3 ⟨rfl, hc⟩
      have H3 := hide (hc.alloc 27 #[.int .i64 (k : Int), .int .i64 1])
      clear hc HD H b0 b1 lb
      have b0 := (H3.out.blk (b := w.heap.size) (t := 27) (cs := #[.int .i64 e1, .int .i64 e2]) (by simp)).at_ 0 (v := .int .i64 e1) rfl
      have b1 := (H3.out.blk (b := w.heap.size) (t := 27) (cs := #[.int .i64 e1, .int .i64 e2]) (by simp)).at_ 1 (v := .int .i64 e2) rfl
      have lb := (H3.out.blk (b := w.heap.size) (t := 27) (cs := #[.int .i64 e1, .int .i64 e2]) (by simp)).lt
      have lb3 : w.heap.size ≤ w3.heap.size := by
        have := H3.out.fr.size
        have hlt := (H3.out.blk (b := w.heap.size) (t := 27) (cs := #[.int .i64 e1, .int .i64 e2]) (by simp)).lt
        simp only [World.alloc, Array.size_push] at hlt
        omega
      have HP := hide (H3.out.pin (id := (k : Int)) (e := (e1, e2)) (Nat.le_trans (List.length_filter_le ..) (by rw [upto_len]; omega)) (by omega) (by omega) (own_none_of fun hm => by
        obtain ⟨p, hp, hpe⟩ := List.mem_map.mp hm
        unfold dropP at hp
        have := (List.mem_filter.mp hp).2
        simp at this
        exact this hpe) (id_none_of fun hm => by
        obtain ⟨p, hp, hpe⟩ := List.mem_map.mp hm
        unfold dropP at hp
        have := (psS_ent (List.mem_map.mpr ⟨p, (List.mem_filter.mp hp).1, hpe⟩)).1
        exact hg1 this))
      simp only [encE] at HP
      go_wp2_with fail
      refine HP.out.mono ?_
      rintro e w4 ⟨rfl, hc⟩
      have H4 : Hid (CB K ad w w4 g (psX i k (e1, e2)) (dsX i k) (i + 1) [(w3.heap.size, 27, #[.int .i64 (k : Int), .int .i64 1]), (w.heap.size, 27, #[Value.int .i64 e1, Value.int .i64 e2])]) := hide hc
      have HE := hide (H4.out.entity (k : Int))
      rw [psX_own H4.out.good.ids (by omega) (by omega), if_pos rfl, Option.getD_some, Option.isSome_some] at HE
      simp only [encE] at HE
      clear hc HP H3 b0 b1 lb
      go_wp2_with fail
      refine HE.out.mono ?_
      rintro e w5 ⟨rfl, hc, -⟩
      have H5 := hide (hc.alloc 27 #[.int .i64 e1, .int .i64 e2])
      have x0 := (H5.out.blk (b := w3.heap.size) (t := 27) (cs := #[.int .i64 (k : Int), .int .i64 1]) (by simp)).at_ 0 (v := .int .i64 (k : Int)) rfl
      have x1 := (H5.out.blk (b := w3.heap.size) (t := 27) (cs := #[.int .i64 (k : Int), .int .i64 1]) (by simp)).at_ 1 (v := .int .i64 1) rfl
      have x0' := (hc.blk (b := w3.heap.size) (t := 27) (cs := #[.int .i64 (k : Int), .int .i64 1]) (by simp)).at_ 0 (v := .int .i64 (k : Int)) rfl
      have x1' := (hc.blk (b := w3.heap.size) (t := 27) (cs := #[.int .i64 (k : Int), .int .i64 1]) (by simp)).at_ 1 (v := .int .i64 1) rfl
      have lx := (hc.blk (b := w3.heap.size) (t := 27) (cs := #[.int .i64 (k : Int), .int .i64 1]) (by simp)).lt
      have HI := hide (H5.out.id ((k : Int), 1))
      rw [psX_id hg1, Option.getD_none, Option.isSome_none] at HI
      simp only [encE] at HI
      clear hc HE H4
      go_wp2_with fail
      refine HI.out.mono ?_
      rintro e w6 ⟨rfl, hc, -⟩
      have H6 := hide hc
      clear hc HI H5 x0 x1 x0' x1' lx
      obtain ⟨c0, c1, c2, c3, c9⟩ := st_keep H6.out h9 w5.heap.size w.heap.size e1 e2 e1 e2 (by simp) (by simp)
      have hne := fun W => neq_ent (e1, e2) (e1, e2) W
      simp only [encE, decide_true, Bool.not_true] at hne
      go_wp2_with fail
      have ho7 : ownOf (psX i (k : Int) (e1, e2)) (k : Int) ≠ none := by rw [psX_own H6.out.good.ids (by omega) (by omega)]; simp
      have hk7 : ((k : Int) < 1 ∨ (i : Int) + 1 ≤ (k : Int)) ∧ 9 = 1 ∨ 1 ≤ (k : Int) ∧ (k : Int) < (i : Int) + 1 ∧ (ownOf (psX i (k : Int) (e1, e2)) (k : Int) ≠ none ∨ idOf (psX i (k : Int) (e1, e2)) (77, 2) ≠ none) ∧ 9 = 9 := .inr ⟨by omega, by omega, .inl ho7, rfl⟩
      have HP := hide (H6.out.drew.pin_err h9 h1 (k := 9) hk7)
      clear ho7 hk7
      go_region_held3 (fun w' => w'.cell? ⟨w5.heap.size, 0, none⟩ = some (.int .i64 e1) ∧ w'.cell? ⟨w5.heap.size, 1, none⟩ = some (.int .i64 e2) ∧ w'.cell? ⟨w.heap.size, 0, none⟩ = some (.int .i64 e1) ∧ w'.cell? ⟨w.heap.size, 1, none⟩ = some (.int .i64 e2) ∧ w'.cell? ⟨0, 0, none⟩ = some (sv (ad 9)))
        (first | exact st_keep H7.out h9 w5.heap.size w.heap.size e1 e2 e1 e2 (by simp) (by simp) | exact st_keep H6.out.drew h9 w5.heap.size w.heap.size e1 e2 e1 e2 (by simp) (by simp) | go_keep)
        (first
          | (go_at_call 18; ((with_reducible refine (is_chain H7.out.sents h9 h9 (chain_of (b := b1) (s := s1) (H7.out.blk (by simp)))).mono ?_)); rintro e w' ⟨rfl, rfl⟩)
          | (go_at_call 10; refine HP.out.mono ?_; rintro e w7 ⟨b1, s1, he, hc⟩; obtain rfl : e = .returned (.iface 94 (.pointer (some ⟨b1, 0, none⟩))) := he; have H7 := hide hc; clear hc))
      all_goals
        go_wp2_with fail
        clear c0 c1 c2 c3 c9 hne HP H6
        go_loopw [18] (fun s18 wr2 => ∃ j : Nat, j ≤ i ∧ s18 = .int .i64 ((j : Int) + 1) ∧ Fr [] w7 wr2) (fun s18 _ => i + 1 - (intOf s18).toNat)
        case atStart => exact ⟨0, by omega, rfl, Fr.refl _ _⟩
        case round =>
          obtain ⟨j, hj, rfl, hf⟩ := hrel
          have j0 : (0 : Int) ≤ (j : Int) := by omega
          have j60 : (j : Int) ≤ 60 := by omega
          by_cases hji : j < i
          · have j1 : (j : Int) + 1 ≤ (i : Int) := by omega
            have HE := hide ((H7.out.fr0 hf).entity ((j : Int) + 1))
            rw [psX_own H7.out.good.ids (by omega) (by omega), Option.getD_some, Option.isSome_some] at HE
            have Hf := hide hf
            clear hf
            by_cases hjk : (j : Int) + 1 = (k : Int)
            · rw [if_pos hjk] at HE
              have fk : ((j : Int) + 1 == (k : Int)) = true := by simpa using hjk
              simp only [encE] at HE
              clear hjk
              go_wp2_with fail
              refine HE.out.mono ?_
              rintro e w8 ⟨rfl, -, hf8⟩
              have Hf8 := hide ((Hf.out.trans hf8).alloc (.cells #[.int .i64 e1, .int .i64 e2] 27))
              clear hf8
              go_wp2_with fail
              go_roundw
              case rel => exact ⟨j + 1, by omega, by go_num, Hf8.out⟩
              case measure => simp [intOf]; omega
            · rw [if_neg hjk] at HE
              have fk : ((j : Int) + 1 == (k : Int)) = false := by simpa using hjk
              have hne := fun W => neq_ent ((j : Int) + 1, 1) ((j : Int) + 1, 1) W
              simp only [encE, decide_true, Bool.not_true] at hne HE
              go_wp2_with fail
              refine HE.out.mono ?_
              rintro e w8 ⟨rfl, -, hf8⟩
              have Hf8 := hide ((Hf.out.trans hf8).alloc (.cells #[.int .i64 ((j : Int) + 1), .int .i64 1] 27))
              clear hf8
              go_wp2_with fail
              go_roundw
              case rel => exact ⟨j + 1, by omega, by go_num, Hf8.out⟩
              case measure => simp [intOf]; omega
          · obtain rfl : j = i := by omega
            have j1 : ¬ (j : Int) + 1 ≤ (j : Int) := by omega
            have H8 := hide (H7.out.fr0 hf)
            clear hf H7
            have hmem : (j : Int) ∈ dsX j (k : Int) := (H8.out.good.same _).mpr (List.mem_map.mpr ⟨_, own_some (psX_own H8.out.good.ids (i := (j : Int)) (by omega) (by omega)), rfl⟩)
            have hdl : (dsX j (k : Int)).length ≤ 100000 := by
              unfold dsX
              rw [ins_len]
              have := List.length_filter_le (fun d : Int => decide (d ≠ (k : Int))) (upto j)
              rw [upto_len] at this
              unfold dropD
              omega
            have HT := hide (H8.out.turn_err h1 hdl (next := (j : Int)) (.inr (.inr (last_ge H8.out.good.sorted hmem))))
            clear hmem hdl
            go_wp2_with fail
            refine HT.out.mono ?_
            rintro e w9 ⟨b2, s2, rfl, hc⟩
            have H9 := hide hc
            clear hc HT H8
            simp only [blm]
            have c0 := (H9.out.blk (b := w.heap.size) (t := 27) (cs := #[.int .i64 e1, .int .i64 e2]) (by simp)).at_ 0 (v := .int .i64 e1) rfl
            have c1 := (H9.out.blk (b := w.heap.size) (t := 27) (cs := #[.int .i64 e1, .int .i64 e2]) (by simp)).at_ 1 (v := .int .i64 e2) rfl
            have lc := (H9.out.blk (b := w.heap.size) (t := 27) (cs := #[.int .i64 e1, .int .i64 e2]) (by simp)).lt
            go_wp2_with fail
            refine (give_nil H9.out.sents h2 e1 e2).mono ?_
            rintro e w10 ⟨v, rfl, hn, hf⟩
            obtain ⟨b3, s3, rfl, hc⟩ := H9.out.err hf hn
            have H10 := hide hc
            clear hc hn hf H9 c0 c1 lc
            simp only [blm]
            go_wp2_with fail
            refine (drop_nil' H10.out.sents h2 1).mono ?_
            rintro e w11 ⟨v, rfl, hn, hf⟩
            obtain ⟨b4, s4, rfl, hc⟩ := H10.out.err hf hn
            have H11 := hide (hc.alloc 27 #[.int .i64 0, .int .i64 0])
            clear hc hn hf H10
            simp only [blm]
            go_wp2_with fail
            refine (turn_nil H11.out.sents h2 1).mono ?_
            rintro e w12 ⟨v, rfl, hn, hf⟩
            obtain ⟨b5, s5, rfl, hc⟩ := H11.out.err hf hn
            have H12 := hide hc
            clear hc hn hf H11
            simp only [blm]
            go_wp2_with fail
            refine (entity_nil 1).mono ?_
            rintro e w13 ⟨rfl, hf⟩
            have H13 := hide ((H12.out.fr0 hf).alloc 27 #[.int .i64 0, .int .i64 0])
            obtain ⟨W13, hW13⟩ : ∃ W13, W13 = w13.alloc (.cells #[.int .i64 0, .int .i64 0] 27) := ⟨_, rfl⟩
            clear hf H12
            go_wp2_with fail
            rw [← hW13] at H13 ⊢
            clear hW13
            obtain ⟨c0, c1, g1, g2⟩ := st_keep2 H13.out h1 h2 w.heap.size e1 e2 (by simp)
            have HP := hide (pin_nil H13.out.drew.sents h2 1 e1 e2)
            go_region_held3 (fun w' => w'.cell? ⟨w.heap.size, 0, none⟩ = some (.int .i64 e1) ∧ w'.cell? ⟨w.heap.size, 1, none⟩ = some (.int .i64 e2) ∧ w'.cell? ⟨1, 0, none⟩ = some (sv (ad 1)) ∧ w'.cell? ⟨2, 0, none⟩ = some (sv (ad 2)))
              (first | exact st_keep2 H14.out h1 h2 w.heap.size e1 e2 (by simp) | exact st_keep2 H13.out.drew h1 h2 w.heap.size e1 e2 (by simp) | go_keep)
              (first
                | (go_at_call 18; have _ := H14; ((with_reducible refine (is_chain H14.out.sents h2 h2 (chain_of (b := b6) (s := s6) (H14.out.blk (by simp)))).mono ?_)); rintro e w' ⟨rfl, rfl⟩)
                | (go_at_call 18; ((with_reducible refine (is_chain H13.out.drew.sents h1 h1 (chain_of (b := b2) (s := s2) (H13.out.drew.blk (by simp)))).mono ?_)); rintro e w' ⟨rfl, rfl⟩)
                | (go_at_call 18; ((with_reducible refine (is_chain H13.out.drew.sents h2 h2 (chain_of (b := b3) (s := s3) (H13.out.drew.blk (by simp)))).mono ?_)); rintro e w' ⟨rfl, rfl⟩)
                | (go_at_call 18; ((with_reducible refine (is_chain H13.out.drew.sents h2 h2 (chain_of (b := b4) (s := s4) (H13.out.drew.blk (by simp)))).mono ?_)); rintro e w' ⟨rfl, rfl⟩)
                | (go_at_call 18; ((with_reducible refine (is_chain H13.out.drew.sents h2 h2 (chain_of (b := b5) (s := s5) (H13.out.drew.blk (by simp)))).mono ?_)); rintro e w' ⟨rfl, rfl⟩)
                | (go_at_call 10; refine HP.out.mono ?_; rintro e w14 ⟨v, he, hn, hf⟩; obtain ⟨b6, s6, hv, hc⟩ := H13.out.drew.err hf hn; obtain rfl : e = .returned (.iface 94 (.pointer (some ⟨b6, 0, none⟩))) := (by rw [he, hv]; rfl); have H14 := hide hc; clear hc hn hf hv he)
                | (go_at_call 17; ((with_reducible refine next_nil.mono ?_)); rintro e w' ⟨rfl, rfl⟩)
                | (go_at_call 14; ((with_reducible refine len_nil.mono ?_)); rintro e w' ⟨rfl, rfl⟩)
                | (go_at_call 13; ((with_reducible refine list_nil'.mono ?_)); rintro e w' ⟨rfl, rfl⟩))
            all_goals
              go_wp2
              go_ret
              exact ⟨rfl, H14.out.fr.below (by simp) (Nat.le_refl _)⟩
end Go.Proofs.YtpipgkglacmoeaaDoor

/- Badges by contracts: Pin, Turn. -/
import Derived.Test.YtpipgkglacmoeaaDoorBadge4
namespace Go.Proofs.YtpipgkglacmoeaaDoor
open Go.RowKit

set_option maxRecDepth 100000 in
set_option maxHeartbeats 4000000 in
theorem pin_ok {B : Nat} {w : World} {g : Nat} {ps : List (Int × Ent)} {ds : List Int} {nx : Int} {S : List Nat} (h : BR B w g ps ds nx S) (hB : B ≤ w.heap.size) (hG : Good ps ds nx) (hn : ds.length ≤ 100000) {id : Int} {e : Ent} (h1 : 1 ≤ id) (h2 : id < nx) (ho : ownOf ps id = none) (he : idOf ps e = none) :
    Calls Tryd.prog 10 #[.pointer (some ⟨g, 0, none⟩), .int .i64 id, encE e] w fun e' w' => e' = .returned .nilIface ∧ ∃ S', BR B w' g (ps ++ [(id, e)]) (insL id ds) nx S' ∧ Stp S S' w w' := by
  obtain ⟨e1, e2⟩ := e
  have HE := hide (fun W (hf : Fr [] w W) => entity_calls (h.fr0 hf) id)
  have HID := hide (fun W (hf : Fr [] w W) => id_calls (h.fr0 hf) (e1, e2))
  rw [he] at HID
  rw [ho] at HE
  have H := hide h
  have HO := hide (fun W (hb : BR B W g ps ds nx S) (hBW : B ≤ W.heap.size) => own_calls hb hBW hG.sorted hn (e1 := e1) (e2 := e2) (own_none ho) (id_none he))
  obtain ⟨-, lg, -⟩ := h.nxt
  have k1 : ¬ id < 1 := by omega
  have k2 : ¬ nx ≤ id := by omega
  clear h he hG ho h1 h2
  simp only [encE, Option.getD_none, Option.isSome_none] at HE HID ⊢
  go_enter Tryd.func10, Tryd.ntmps10
  go_wp2_with fail
  refine (HE.out _ ((Fr.refl [] w).alloc (.cells #[.int .i64 e1, .int .i64 e2] 27))).mono ?_
  rintro e w1 ⟨rfl, hf⟩
  have hbox := (Blk.new w 27 #[.int .i64 e1, .int .i64 e2]).fr0 hf
  have hf1 := ((Fr.refl [] w).alloc (.cells #[.int .i64 e1, .int .i64 e2] 27)).trans hf
  have hb0 := hbox.at_ 0 (v := .int .i64 e1) rfl
  have hb1 := hbox.at_ 1 (v := .int .i64 e2) rfl
  have lb := hbox.lt
  have H1 := hide (And.intro hf1 hbox)
  clear hf hbox hf1 HE
  go_wp2_with fail
  refine (HID.out _ (H1.out.1.alloc (.cells #[.int .i64 0, .int .i64 0] 27))).mono ?_
  rintro e w2 ⟨rfl, hf⟩
  have hf2 := (H1.out.1.alloc (.cells #[.int .i64 0, .int .i64 0] 27)).trans hf
  have hbox := (H1.out.2.alloc (.cells #[.int .i64 0, .int .i64 0] 27)).fr0 hf
  have c0 := hbox.at_ 0 (v := .int .i64 e1) rfl
  have c1 := hbox.at_ 1 (v := .int .i64 e2) rfl
  have lb2 := hbox.lt
  have hb2 := H.out.fr0 hf2
  obtain ⟨c3, lg2, fg⟩ := hb2.nxt
  have H2 := hide (And.intro hf2 hb2)
  clear hf hbox hf2 hb2 HID H1 hb0 hb1 lb
  go_wp2_with fail
  refine (HO.out _ H2.out.2 (Nat.le_trans hB H2.out.1.size)).mono ?_
  rintro e w3 ⟨rfl, S', hb, hst⟩
  have H3 := hide (And.intro hb hst)
  clear hb hst
  go_wp2_with fail
  go_ret
  refine ⟨rfl, S', H3.out.1, (H2.out.1.any S).trans H3.out.2.1, fun b hb => ?_⟩
  rcases H3.out.2.2 b hb with h | h
  · exact .inl h
  · right
    have := H2.out.1.size
    omega
set_option maxRecDepth 100000 in
set_option maxHeartbeats 4000000 in
theorem pin_err {K : List Nat} {B0 : Nat} {ad : Nat → Addr} {B : Nat} {w : World} (hs : Sents K B0 w ad) (h9 : 9 ∈ K) (h1 : 1 ∈ K) {g : Nat} {ps : List (Int × Ent)} {ds : List Int} {nx : Int} {S : List Nat} (h : BR B w g ps ds nx S) {id : Int} {e : Ent} {k : Nat}
    (hk : (id < 1 ∨ nx ≤ id) ∧ k = 1 ∨ 1 ≤ id ∧ id < nx ∧ (ownOf ps id ≠ none ∨ idOf ps e ≠ none) ∧ k = 9) :
    Calls Tryd.prog 10 #[.pointer (some ⟨g, 0, none⟩), .int .i64 id, encE e] w fun e' w' => ∃ v, e' = .returned v ∧ NewErr w w' ad v k ∧ Fr [] w w' := by
  obtain ⟨e1, e2⟩ := e
  have HE := hide (fun W (hf : Fr [] w W) => entity_calls (h.fr0 hf) id)
  have HID := hide (fun W (hf : Fr [] w W) => id_calls (h.fr0 hf) (e1, e2))
  have H := hide (And.intro h hs)
  obtain ⟨-, lg, -⟩ := h.nxt
  have HW := hide (fun W k => wrong_calls (w := W) (ad := ad) k)
  have Hk := hide hk
  clear h hs hk
  generalize ownOf ps id = o at *
  generalize idOf ps (e1, e2) = i at *
  generalize hoe : o.getD (0, 0) = oe at *
  obtain ⟨o1, o2⟩ := oe
  clear hoe
  simp only [encE] at HE HID ⊢
  go_enter Tryd.func10, Tryd.ntmps10
  go_wp2_with fail
  refine (HE.out _ ((Fr.refl [] w).alloc (.cells #[.int .i64 e1, .int .i64 e2] 27))).mono ?_
  rintro e w1 ⟨rfl, hf⟩
  have hbox := (Blk.new w 27 #[.int .i64 e1, .int .i64 e2]).fr0 hf
  have hf1 := ((Fr.refl [] w).alloc (.cells #[.int .i64 e1, .int .i64 e2] 27)).trans hf
  have hb0 := hbox.at_ 0 (v := .int .i64 e1) rfl
  have hb1 := hbox.at_ 1 (v := .int .i64 e2) rfl
  have lb := hbox.lt
  have H1 := hide hf1
  clear hf hbox hf1 HE
  go_wp2_with fail
  refine (HID.out _ (H1.out.alloc (.cells #[.int .i64 o1, .int .i64 o2] 27))).mono ?_
  rintro e w2 ⟨rfl, hf⟩
  have hf2 := (H1.out.alloc (.cells #[.int .i64 o1, .int .i64 o2] 27)).trans hf
  obtain ⟨c3, lg2, fg⟩ := (H.out.1.fr0 hf2).nxt
  have hs1 := H.out.2.fr0 hf2
  have e9 := hs1.cell 9 h9
  have l9 := Nat.lt_of_lt_of_le (hs1.glob 9 h9) hs1.le
  have e6 := hs1.cell 1 h1
  have l6 := Nat.lt_of_lt_of_le (hs1.glob 1 h1) hs1.le
  change w2.cell? ⟨0, 0, none⟩ = some (sv (ad 9)) at e9
  change 0 < w2.heap.size at l9
  change w2.cell? ⟨1, 0, none⟩ = some (sv (ad 1)) at e6
  change 1 < w2.heap.size at l6
  have Hf2 := hide hf2
  clear hf hf2 hs1 HID H1 hb0 hb1 lb
  rcases Hk.out with ⟨hk, rfl⟩ | ⟨g1, g2, hk, rfl⟩
  · by_cases k1 : id < 1
    · clear hk Hk
      go_wp2_with fail
      refine (HW.out _ 1).mono ?_
      rintro e w3 ⟨v, rfl, hn, hf⟩
      obtain ⟨t, a, rfl⟩ := hn.form
      have Hn := hide (And.intro hn hf)
      clear hn hf
      go_wp2_with fail
      go_ret
      exact ⟨_, rfl, Hn.out.1.elder Hf2.out.size, Hf2.out.trans Hn.out.2⟩
    · have k2 : nx ≤ id := by omega
      clear hk Hk
      go_wp2_with fail
      refine (HW.out _ 1).mono ?_
      rintro e w3 ⟨v, rfl, hn, hf⟩
      obtain ⟨t, a, rfl⟩ := hn.form
      have Hn := hide (And.intro hn hf)
      clear hn hf
      go_wp2_with fail
      go_ret
      exact ⟨_, rfl, Hn.out.1.elder Hf2.out.size, Hf2.out.trans Hn.out.2⟩
  · have k1 : ¬ id < 1 := by omega
    have k2 : ¬ nx ≤ id := by omega
    clear Hk
    cases o with
    | some oo =>
      clear hk
      simp only [Option.isSome_some]
      go_wp2_with fail
      refine (HW.out _ 9).mono ?_
      rintro e w3 ⟨v, rfl, hn, hf⟩
      obtain ⟨t, a, rfl⟩ := hn.form
      have Hn := hide (And.intro hn hf)
      clear hn hf
      go_wp2_with fail
      go_ret
      exact ⟨_, rfl, Hn.out.1.elder Hf2.out.size, Hf2.out.trans Hn.out.2⟩
    | none =>
      cases i with
      | none => exact absurd rfl (hk.resolve_left (by simp))
      | some ii =>
        clear hk
        simp only [Option.isSome_some, Option.isSome_none]
        go_wp2_with fail
        refine (HW.out _ 9).mono ?_
        rintro e w3 ⟨v, rfl, hn, hf⟩
        obtain ⟨t, a, rfl⟩ := hn.form
        have Hn := hide (And.intro hn hf)
        clear hn hf
        go_wp2_with fail
        go_ret
        exact ⟨_, rfl, Hn.out.1.elder Hf2.out.size, Hf2.out.trans Hn.out.2⟩
/-- what the last number says to a turn -/
def turnB (ds : List Int) (next : Int) : Bool := match ds.getLast? with | some d => decide (next ≤ d) | none => false
/-- how the row of numbers lies, for a look at its last one -/
theorem last_cell {B : Nat} {w : World} {vs : Value} {ds : List Int} (h : w.ownsRow B 3 1 vs ds.length (ints ds)) : (∃ A c, ds = [] ∧ vs = .slice A 0 c) ∨ ∃ gv c m d, ds.length = m + 1 ∧ vs = .slice (some ⟨gv, 0, none⟩) (m + 1) c ∧ w.cell? ⟨gv, m, none⟩ = some (.int .i64 d) ∧ gv < w.heap.size ∧ ds.getLast? = some d := by
  cases hd : ds.getLast? with
  | none =>
    obtain rfl : ds = [] := List.getLast?_eq_none_iff.mp hd
    left
    rcases row_form h with ⟨rfl, -, -⟩ | ⟨gv, cv, rfl, -⟩
    · exact ⟨_, _, rfl, rfl⟩
    · exact ⟨_, _, rfl, rfl⟩
  | some d =>
    right
    have hne : ds ≠ [] := by rintro rfl; cases hd
    obtain ⟨m, hm⟩ : ∃ m, ds.length = m + 1 := ⟨ds.length - 1, by have := List.length_pos_iff.mpr hne; omega⟩
    rcases row_form h with ⟨rfl, h0, -⟩ | ⟨gv, cv, rfl, -, lgv, -, -⟩
    · omega
    · refine ⟨gv, cv, m, d, hm, by rw [hm], row_cell h ?_, lgv, rfl⟩
      rw [List.getLast?_eq_getElem?, hm] at hd
      unfold ints
      rw [List.getElem?_map, show m = m + 1 - 1 from rfl, hd]; rfl
set_option maxRecDepth 100000 in
set_option maxHeartbeats 4000000 in
theorem turn_ok {B : Nat} {w : World} {g : Nat} {ps : List (Int × Ent)} {ds : List Int} {nx : Int} {S : List Nat} (h : BR B w g ps ds nx S) (hn : ds.length ≤ 100000) {next : Int} (h1 : 1 ≤ next) (h2 : next ≤ 1073741825) (hl : turnB ds next = false) :
    Calls Tryd.prog 12 #[.pointer (some ⟨g, 0, none⟩), .int .i64 next] w fun e' w' => e' = .returned (.tuple #[.int .i64 nx, .nilIface]) ∧ BR B w' g ps ds next S ∧ Fr S w w' := by
  have H := hide (fun W (hf : Fr [] w W) => (h.fr0 hf).next next)
  obtain ⟨c3, lg, fg⟩ := h.nxt
  obtain ⟨mo, mi, vs, q1, q2, q3, q4, -, -, -, -, -⟩ := h
  have c2 := q1.at_ 2 (v := vs) rfl
  have k1 : ¬ next < 1 := by omega
  have k2 : ¬ 1073741825 < next := by omega
  rcases last_cell q4 with ⟨A, c, hd0, rfl⟩ | ⟨gv, c, m, d, hm, rfl, cv, lgv, hlast⟩
  · clear q1 q2 q3 q4 hl hd0
    have hd : decide ((0 : Int) < 0) = false := rfl
    go_enter Tryd.func12, Tryd.ntmps12
    go_wp2_with fail
    go_quiet (fail)
    go_wp2_with fail
    go_ret2
    obtain ⟨r1, r2⟩ := H.out (w.drewN nq) ((Fr.refl _ _).drewN nq)
    exact ⟨rfl, r1, (((Fr.refl [] w).drewN nq).any S).trans r2⟩
  · have hdn : ¬ next ≤ d := by unfold turnB at hl; rw [hlast] at hl; simpa using hl
    rw [hm] at hn
    clear q1 q2 q3 q4 hl hlast hm
    have m0 : (0 : Int) ≤ (m : Int) := by omega
    have m1 : (0 : Int) < ((m + 1 : Nat) : Int) := by omega
    have m2 : ((m + 1 : Nat) : Int) - 1 = (m : Int) := by omega
    have m3 : (m : Int) < ((m + 1 : Nat) : Int) := by omega
    go_enter Tryd.func12, Tryd.ntmps12
    go_wp2_with fail
    go_quiet (fail)
    go_wp2_with fail
    go_ret2
    obtain ⟨r1, r2⟩ := H.out (w.drewN nq) ((Fr.refl _ _).drewN nq)
    exact ⟨rfl, r1, (((Fr.refl [] w).drewN nq).any S).trans r2⟩
set_option maxRecDepth 100000 in
set_option maxHeartbeats 4000000 in
theorem turn_err {K : List Nat} {B0 : Nat} {ad : Nat → Addr} {B : Nat} {w : World} (hs : Sents K B0 w ad) (h1 : 1 ∈ K) {g : Nat} {ps : List (Int × Ent)} {ds : List Int} {nx : Int} {S : List Nat} (h : BR B w g ps ds nx S) (hn : ds.length ≤ 100000) {next : Int} (hk : next < 1 ∨ 1073741825 < next ∨ turnB ds next = true) :
    Calls Tryd.prog 12 #[.pointer (some ⟨g, 0, none⟩), .int .i64 next] w fun e' w' => ∃ v, e' = .returned (.tuple #[.int .i64 0, v]) ∧ NewErr w w' ad v 1 ∧ Fr [] w w' := by
  have HS := hide hs
  obtain ⟨c3, lg, fg⟩ := h.nxt
  have HW := hide (fun W k => wrong_calls (w := W) (ad := ad) k)
  obtain ⟨mo, mi, vs, q1, q2, q3, q4, -, -, -, -, -⟩ := h
  have c2 := q1.at_ 2 (v := vs) rfl
  have e6 := hs.cell 1 h1
  have l6 := Nat.lt_of_lt_of_le (hs.glob 1 h1) hs.le
  change w.cell? ⟨1, 0, none⟩ = some (sv (ad 1)) at e6
  change 1 < w.heap.size at l6
  clear hs
  by_cases k1 : next < 1
  · clear hk q1 q2 q3 q4
    go_enter Tryd.func12, Tryd.ntmps12
    go_wp2_with fail
    refine (HW.out _ 1).mono ?_
    rintro e w3 ⟨v, rfl, hn, hf⟩
    obtain ⟨t, a, rfl⟩ := hn.form
    have Hn := hide (And.intro hn hf)
    clear hn hf
    go_wp2_with fail
    go_ret2
    exact ⟨_, rfl, Hn.out⟩
  by_cases k2 : 1073741825 < next
  · clear hk q1 q2 q3 q4
    go_enter Tryd.func12, Tryd.ntmps12
    go_wp2_with fail
    refine (HW.out _ 1).mono ?_
    rintro e w3 ⟨v, rfl, hn, hf⟩
    obtain ⟨t, a, rfl⟩ := hn.form
    have Hn := hide (And.intro hn hf)
    clear hn hf
    go_wp2_with fail
    go_ret2
    exact ⟨_, rfl, Hn.out⟩
  have hl := (hk.resolve_left k1).resolve_left k2
  rcases last_cell q4 with ⟨A, c, hd0, rfl⟩ | ⟨gv, c, m, d, hm, rfl, cv, lgv, hlast⟩
  · subst hd0; cases hl
  · have hdn : next ≤ d := by unfold turnB at hl; rw [hlast] at hl; simpa using hl
    rw [hm] at hn
    clear q1 q2 q3 q4 hl hlast hm hk
    have m0 : (0 : Int) ≤ (m : Int) := by omega
    have m1 : (0 : Int) < ((m + 1 : Nat) : Int) := by omega
    have m2 : ((m + 1 : Nat) : Int) - 1 = (m : Int) := by omega
    have m3 : (m : Int) < ((m + 1 : Nat) : Int) := by omega
    go_enter Tryd.func12, Tryd.ntmps12
    go_wp2_with fail
    go_quiet (fail)
    go_wp2_with fail
    refine (HW.out _ 1).mono ?_
    rintro e w3 ⟨v, rfl, hn, hf⟩
    obtain ⟨t, a, rfl⟩ := hn.form
    have Hn := hide (And.intro hn hf)
    clear hn hf
    go_wp2_with fail
    go_ret2
    exact ⟨_, rfl, Hn.out.1.elder (by simp), ((Fr.refl [] w).drewN nq).trans Hn.out.2⟩
end Go.Proofs.YtpipgkglacmoeaaDoor

/- The journal of the reference: Note. -/
import Derived.Test.YtioeafjlbdpjoaaDoorOldJ
import Derived.Deep.DeepCutAuto
import Derived.Test.YtioeafjlbdpjoaaDoorOpen
namespace Go.Proofs.YtioeafjlbdpjoaaDoor
open Go.RowKit
theorem ens_one (es : List En) : ∀ u ∈ es.flatMap En.cells, u.oneCell' = true := by
  intro u hu
  obtain ⟨e, -, he⟩ := List.mem_flatMap.mp hu
  simp only [En.cells, Ud.cells, List.mem_cons, List.not_mem_nil, or_false] at he
  rcases he with rfl | rfl | rfl | rfl | rfl | rfl | rfl | rfl | rfl | rfl | rfl | rfl <;> rfl
/-- what the store of the longer row leaves -/
def RNoteMid (B : Nat) (w : World) (u : Nat) (most : Int) (ms : List Int) (L : List (Int × Un)) (T : List Nat) (lm : Int) (d : Ud) (wx : World) : Prop := ∃ T', RJ B wx u most ms (L ++ [(lm, d.u)]) T' ∧ Stp T T' w wx
def hitR (ms : List Int) (u : Un) (e : Int × Un) : Bool := decide (e.1 = lastI ms) && oldB e.2 u
def RNotePost (B : Nat) (w : World) (u : Nat) (most : Int) (ms : List Int) (L : List (Int × Un)) (T : List Nat) (x : Un) (e : Ending) (w' : World) : Prop :=
  (L.any (hitR ms x) = true ∧ e = .returned (.int .i64 0) ∧ Fr [] w w') ∨ (L.any (hitR ms x) = false ∧ most ≤ L.length ∧ e = .returned (.int .i64 6) ∧ Fr [] w w') ∨
  (L.any (hitR ms x) = false ∧ (L.length : Int) < most ∧ e = .returned (.int .i64 0) ∧ ∃ T', RJ B w' u most ms (L ++ [(lastI ms, x)]) T' ∧ Stp T T' w w')
set_option maxRecDepth 100000 in
set_option maxHeartbeats 2000000 in
theorem rnote_kind (w : World) (v : Value) (d : Ud) (hk : d.u.kind < 1 ∨ 9 < d.u.kind) : Calls Tryd.prog 22 #[v, d.val] w fun e w' => e = .returned (.int .i64 1) ∧ Fr [] w w' := by
  unfold Ud.val
  generalize d.u.kind = kd at *
  have hk' : decide (kd < 1) = true ∨ (decide (kd < 1) = false ∧ decide (9 < kd) = true) := by
    rcases hk with h | h
    · exact .inl (decide_eq_true h)
    · exact .inr ⟨decide_eq_false (by omega), decide_eq_true h⟩
  clear hk
  rcases hk' with h1 | ⟨h1, h2⟩
  all_goals
    go_enter Tryd.func22, Tryd.ntmps22
    go_wp2_with fail
    go_ret
    exact ⟨rfl, (Fr.refl _ _).alloc _⟩
set_option maxRecDepth 100000 in
set_option maxHeartbeats 2000000 in
theorem rnote_state {B : Nat} {w : World} {u : Nat} {most : Int} {L : List (Int × Un)} {T : List Nat} (h : RJ B w u most [] L T) (d : Ud) (hk1 : 1 ≤ d.u.kind) (hk2 : d.u.kind ≤ 9) : Calls Tryd.prog 22 #[ptr u, d.val] w fun e w' => e = .returned (.int .i64 8) ∧ Fr [] w w' := by
  unfold Ud.val
  generalize d.u.kind = kd at *
  have h1 : decide (kd < 1) = false := decide_eq_false (by omega)
  have h2 : decide (9 < kd) = false := decide_eq_false (by omega)
  have HL := hide (fun W (hf : Fr [] w W) => rlast_calls (h.fr0 hf) (by simp))
  have e0 : lastI [] = -1 := rfl
  rw [e0] at HL
  clear h hk1 hk2 e0
  go_enter Tryd.func22, Tryd.ntmps22
  go_wp2_with fail
  refine (HL.out _ ((Fr.refl _ _).alloc _)).mono ?_
  rintro e w' ⟨rfl, nq, rfl⟩
  go_wp2_with fail
  go_ret
  exact ⟨rfl, ((Fr.refl _ _).alloc _).drewN _⟩
theorem En.row {B : Nat} {w : World} {lv : Value} {L : List (Int × Un)} {es : List En} (h : w.ownsRow B 95 12 lv L.length (es.flatMap En.cells)) (hL : es.map En.say = L) {i : Nat} {x : Int × Un} (hx : L[i]? = some x) : ∃ gl cl en, lv = .slice (some ⟨gl, 0, none⟩) L.length cl ∧ es[i]? = some en ∧ En.say en = x ∧ gl < w.heap.size ∧ ∀ j v, en.cells[j]? = some v → w.cell? ⟨gl, i * 12 + j, none⟩ = some v := by
  rw [← hL, List.getElem?_map] at hx
  obtain ⟨en, he, hs⟩ := Option.map_eq_some_iff.1 hx
  rcases row_form h with ⟨_, h0, _⟩ | ⟨g, cap, rfl, _, hl, _⟩
  · have := (List.getElem?_eq_some_iff.1 he).1
    have h1 : es.length = L.length := by rw [← hL, List.length_map]
    omega
  · refine ⟨g, cap, en, rfl, he, hs, hl, fun j v hv => row_cell h ?_⟩
    have hj : j < 12 := by rw [← En.cells_len en]; exact (List.getElem?_eq_some_iff.1 hv).1
    rw [flat_get En.cells_len he j hj, hv]
set_option maxRecDepth 100000 in
set_option maxHeartbeats 8000000 in
theorem rnote_calls {B : Nat} {w : World} {u : Nat} {most : Int} {ms : List Int} {L : List (Int × Un)} {T : List Nat} (h : RJ B w u most ms L T) (hB : B ≤ w.heap.size) (hn : ms.length ≤ 1000000) (hl0 : 0 ≤ lastI ms) (hLl : L.length ≤ 1000000) {d : Ud} (hd : PsOk (· < B) w d) (hk1 : 1 ≤ d.u.kind) (hk2 : d.u.kind ≤ 9) :
    Calls Tryd.prog 22 #[ptr u, d.val] w (RNotePost B w u most ms L T d.u) := by
  obtain ⟨mv, lv, es, q1, q2, q3, q4, q5, q6, q7⟩ := id h
  obtain ⟨Al, cl0, hlv, _⟩ := row_reads q3
  have HL := hide (fun W (hf : Fr [] w W) => rlast_calls (h.fr0 hf) hn)
  have HH := hide (And.intro h (And.intro q1 (And.intro q3 (And.intro q4 (And.intro q5 hd)))))
  have lu := q1.lt
  have h1 : decide (d.u.kind < 1) = false := decide_eq_false (by omega)
  have h2 : decide (9 < d.u.kind) = false := decide_eq_false (by omega)
  have h3 : decide (lastI ms < 0) = false := decide_eq_false (by omega)
  obtain ⟨lm, hlm⟩ : ∃ lm, lm = lastI ms := ⟨_, rfl⟩
  rw [← hlm] at HL h3
  have Hlm := hide hlm
  have hua : Blk (w.alloc (.cells d.box 37)) w.heap.size 37 d.box := Blk.new _ _ _
  have hbx : d.box = #[.int .i64 d.u.kind, .int .i64 d.u.id, .int .i64 d.u.p.c, .int .i64 d.u.p.v0, .int .i64 d.u.p.v1, .int .i64 d.u.p.v2, .int .i64 d.u.p.v3, .int .i64 d.u.p.t, .slice d.A d.u.ps.length d.c, .int .i64 d.u.n, .int .i64 d.u.old] := rfl
  have HU := hide (And.intro hua hbx)
  have hwa : Fr [] w (w.alloc (.cells #[.int .i64 d.u.kind, .int .i64 d.u.id, .int .i64 d.u.p.c, .int .i64 d.u.p.v0, .int .i64 d.u.p.v1, .int .i64 d.u.p.v2, .int .i64 d.u.p.v3, .int .i64 d.u.p.t, .slice d.A d.u.ps.length d.c, .int .i64 d.u.n, .int .i64 d.u.old] 37)) := (Fr.refl _ _).alloc _
  have HWA := hide hwa
  unfold Ud.val
  clear h q1 q2 q3 q4 q5 q6 q7 hd hl0 hlm hua hbx hwa hk1 hk2
  go_enter Tryd.func22, Tryd.ntmps22
  go_wp2_with fail
  refine (HL.out _ HWA.out).mono ?_
  rintro e w1 ⟨rfl, nq, hw1⟩
  have hf1 : Fr [] (w.alloc (.cells #[.int .i64 d.u.kind, .int .i64 d.u.id, .int .i64 d.u.p.c, .int .i64 d.u.p.v0, .int .i64 d.u.p.v1, .int .i64 d.u.p.v2, .int .i64 d.u.p.v3, .int .i64 d.u.p.t, .slice d.A d.u.ps.length d.c, .int .i64 d.u.n, .int .i64 d.u.old] 37)) w1 := by rw [← hw1]; exact (Fr.refl _ _).drewN _
  have H1 := hide (And.intro hf1 (HWA.out.trans hf1))
  clear hf1 hw1
  go_wp2_with fail
  go_loopw [5] (fun s5 wr => ∃ i : Nat, i ≤ L.length ∧ s5 = .int .i64 i ∧ (∀ j < i, ∀ y, L[j]? = some y → hitR ms d.u y = false) ∧ Fr [] w1 wr) (fun s5 _ => L.length - (intOf s5).toNat)
  case atStart => exact ⟨0, by omega, rfl, fun j hj => by omega, Fr.refl _ _⟩
  case round =>
    obtain ⟨i, hi, rfl, hno, hf⟩ := hrel
    have j0 : (0 : Int) ≤ (i : Int) := by omega
    have Hf := hide (And.intro hf (And.intro (H1.out.2.trans hf) hno))
    have u2 := ((HH.out.2.1.fr0 Hf.out.2.1)).at_ 2 (v := lv) rfl
    have lur := Nat.lt_of_lt_of_le lu Hf.out.2.1.size
    clear hno hf
    by_cases hin : i < L.length
    · have j1 : (i : Int) < (L.length : Int) := by omega
      obtain ⟨y, hy⟩ : ∃ y, L[i]? = some y := ⟨_, List.getElem?_eq_getElem hin⟩
      obtain ⟨gl, cl, en, rfl, he, hs, lgl, hc⟩ := En.row (row_fr HH.out.2.2.1 Hf.out.2.1 (by simp)) HH.out.2.2.2.1 hy
      have c0 := hc 0 _ rfl
      have c1 := hc 1 (.int .i64 en.d.u.kind) rfl
      have c2 := hc 2 (.int .i64 en.d.u.id) rfl
      have c3 := hc 3 (.int .i64 en.d.u.p.c) rfl
      have c4 := hc 4 (.int .i64 en.d.u.p.v0) rfl
      have c5 := hc 5 (.int .i64 en.d.u.p.v1) rfl
      have c6 := hc 6 (.int .i64 en.d.u.p.v2) rfl
      have c7 := hc 7 (.int .i64 en.d.u.p.v3) rfl
      have c8 := hc 8 (.int .i64 en.d.u.p.t) rfl
      have c9 := hc 9 (.slice en.d.A en.d.u.ps.length en.d.c) rfl
      have c10 := hc 10 (.int .i64 en.d.u.n) rfl
      have c11 := hc 11 (.int .i64 en.d.u.old) rfl
      rw [Nat.add_zero] at c0
      have HLq := hide (fun n => HL.out (wr.drewN n) (Hf.out.2.1.drewN n))
      have Hy := hide (And.intro hy (And.intro hs (And.intro he hc)))
      clear hy hs he hc hlv
      by_cases hm : en.m = lm
      · have hme : (en.m == lm) = true := by simp [hm]
        have Hm := hide hm
        clear hm
        have hub := (HU.out.1.fr0 H1.out.1).fr0 Hf.out.1
        rw [HU.out.2] at hub
        have b0 := hub.at_ 0 rfl
        have b1 := hub.at_ 1 rfl
        have b2 := hub.at_ 2 rfl
        have b3 := hub.at_ 3 rfl
        have b4 := hub.at_ 4 rfl
        have b5 := hub.at_ 5 rfl
        have b6 := hub.at_ 6 rfl
        have b7 := hub.at_ 7 rfl
        have b8 := hub.at_ 8 rfl
        have b9 := hub.at_ 9 rfl
        have b10 := hub.at_ 10 rfl
        have lub := hub.lt
        have q : wr.drew.cell? ⟨u, 2, none⟩ = some (.slice (some ⟨gl, 0, none⟩) L.length cl) ∧ wr.drew.cell? ⟨gl, i * 12, none⟩ = some (.int .i64 en.m) ∧ wr.drew.cell? ⟨gl, i * 12 + 1, none⟩ = some (.int .i64 en.d.u.kind) ∧ wr.drew.cell? ⟨gl, i * 12 + 2, none⟩ = some (.int .i64 en.d.u.id) ∧ wr.drew.cell? ⟨gl, i * 12 + 3, none⟩ = some (.int .i64 en.d.u.p.c) ∧ wr.drew.cell? ⟨gl, i * 12 + 4, none⟩ = some (.int .i64 en.d.u.p.v0) ∧ wr.drew.cell? ⟨gl, i * 12 + 5, none⟩ = some (.int .i64 en.d.u.p.v1) ∧ wr.drew.cell? ⟨gl, i * 12 + 6, none⟩ = some (.int .i64 en.d.u.p.v2) ∧ wr.drew.cell? ⟨gl, i * 12 + 7, none⟩ = some (.int .i64 en.d.u.p.v3) ∧ wr.drew.cell? ⟨gl, i * 12 + 8, none⟩ = some (.int .i64 en.d.u.p.t) ∧ wr.drew.cell? ⟨gl, i * 12 + 9, none⟩ = some (.slice en.d.A en.d.u.ps.length en.d.c) ∧ wr.drew.cell? ⟨gl, i * 12 + 10, none⟩ = some (.int .i64 en.d.u.n) ∧ wr.drew.cell? ⟨gl, i * 12 + 11, none⟩ = some (.int .i64 en.d.u.old) ∧ wr.drew.cell? ⟨w.heap.size, 0, none⟩ = some (.int .i64 d.u.kind) ∧ wr.drew.cell? ⟨w.heap.size, 1, none⟩ = some (.int .i64 d.u.id) ∧ wr.drew.cell? ⟨w.heap.size, 2, none⟩ = some (.int .i64 d.u.p.c) ∧ wr.drew.cell? ⟨w.heap.size, 3, none⟩ = some (.int .i64 d.u.p.v0) ∧ wr.drew.cell? ⟨w.heap.size, 4, none⟩ = some (.int .i64 d.u.p.v1) ∧ wr.drew.cell? ⟨w.heap.size, 5, none⟩ = some (.int .i64 d.u.p.v2) ∧ wr.drew.cell? ⟨w.heap.size, 6, none⟩ = some (.int .i64 d.u.p.v3) ∧ wr.drew.cell? ⟨w.heap.size, 7, none⟩ = some (.int .i64 d.u.p.t) ∧ wr.drew.cell? ⟨w.heap.size, 8, none⟩ = some (.slice d.A d.u.ps.length d.c) ∧ wr.drew.cell? ⟨w.heap.size, 9, none⟩ = some (.int .i64 d.u.n) ∧ wr.drew.cell? ⟨w.heap.size, 10, none⟩ = some (.int .i64 d.u.old) := ⟨u2, c0, c1, c2, c3, c4, c5, c6, c7, c8, c9, c10, c11, b0, b1, b2, b3, b4, b5, b6, b7, b8, b9, b10⟩
        have HO := hide (fun W => old_calls W en.d d)
        have HL2 := hide (fun W (hf : Fr [] w W) => (HL.out W hf).mono (fun e w' h => (⟨h.1, h.2.elim fun n hn => hn ▸ (Fr.refl [] W).drewN n⟩ : e = .returned (.int .i64 lm) ∧ Fr [] W w')))
        have HSq := hide (fun W (hf : Fr [] wr.drew W) => (⟨(hf.cell (p := ⟨u, 2, none⟩) lur (by simp)).trans u2, (hf.cell (p := ⟨gl, i * 12, none⟩) lgl (by simp)).trans c0, (hf.cell (p := ⟨gl, i * 12 + 1, none⟩) lgl (by simp)).trans c1, (hf.cell (p := ⟨gl, i * 12 + 2, none⟩) lgl (by simp)).trans c2, (hf.cell (p := ⟨gl, i * 12 + 3, none⟩) lgl (by simp)).trans c3, (hf.cell (p := ⟨gl, i * 12 + 4, none⟩) lgl (by simp)).trans c4, (hf.cell (p := ⟨gl, i * 12 + 5, none⟩) lgl (by simp)).trans c5, (hf.cell (p := ⟨gl, i * 12 + 6, none⟩) lgl (by simp)).trans c6, (hf.cell (p := ⟨gl, i * 12 + 7, none⟩) lgl (by simp)).trans c7, (hf.cell (p := ⟨gl, i * 12 + 8, none⟩) lgl (by simp)).trans c8, (hf.cell (p := ⟨gl, i * 12 + 9, none⟩) lgl (by simp)).trans c9, (hf.cell (p := ⟨gl, i * 12 + 10, none⟩) lgl (by simp)).trans c10, (hf.cell (p := ⟨gl, i * 12 + 11, none⟩) lgl (by simp)).trans c11, (hf.cell (p := ⟨w.heap.size, 0, none⟩) lub (by simp)).trans b0, (hf.cell (p := ⟨w.heap.size, 1, none⟩) lub (by simp)).trans b1, (hf.cell (p := ⟨w.heap.size, 2, none⟩) lub (by simp)).trans b2, (hf.cell (p := ⟨w.heap.size, 3, none⟩) lub (by simp)).trans b3, (hf.cell (p := ⟨w.heap.size, 4, none⟩) lub (by simp)).trans b4, (hf.cell (p := ⟨w.heap.size, 5, none⟩) lub (by simp)).trans b5, (hf.cell (p := ⟨w.heap.size, 6, none⟩) lub (by simp)).trans b6, (hf.cell (p := ⟨w.heap.size, 7, none⟩) lub (by simp)).trans b7, (hf.cell (p := ⟨w.heap.size, 8, none⟩) lub (by simp)).trans b8, (hf.cell (p := ⟨w.heap.size, 9, none⟩) lub (by simp)).trans b9, (hf.cell (p := ⟨w.heap.size, 10, none⟩) lub (by simp)).trans b10⟩ : W.cell? ⟨u, 2, none⟩ = some (.slice (some ⟨gl, 0, none⟩) L.length cl) ∧ W.cell? ⟨gl, i * 12, none⟩ = some (.int .i64 en.m) ∧ W.cell? ⟨gl, i * 12 + 1, none⟩ = some (.int .i64 en.d.u.kind) ∧ W.cell? ⟨gl, i * 12 + 2, none⟩ = some (.int .i64 en.d.u.id) ∧ W.cell? ⟨gl, i * 12 + 3, none⟩ = some (.int .i64 en.d.u.p.c) ∧ W.cell? ⟨gl, i * 12 + 4, none⟩ = some (.int .i64 en.d.u.p.v0) ∧ W.cell? ⟨gl, i * 12 + 5, none⟩ = some (.int .i64 en.d.u.p.v1) ∧ W.cell? ⟨gl, i * 12 + 6, none⟩ = some (.int .i64 en.d.u.p.v2) ∧ W.cell? ⟨gl, i * 12 + 7, none⟩ = some (.int .i64 en.d.u.p.v3) ∧ W.cell? ⟨gl, i * 12 + 8, none⟩ = some (.int .i64 en.d.u.p.t) ∧ W.cell? ⟨gl, i * 12 + 9, none⟩ = some (.slice en.d.A en.d.u.ps.length en.d.c) ∧ W.cell? ⟨gl, i * 12 + 10, none⟩ = some (.int .i64 en.d.u.n) ∧ W.cell? ⟨gl, i * 12 + 11, none⟩ = some (.int .i64 en.d.u.old) ∧ W.cell? ⟨w.heap.size, 0, none⟩ = some (.int .i64 d.u.kind) ∧ W.cell? ⟨w.heap.size, 1, none⟩ = some (.int .i64 d.u.id) ∧ W.cell? ⟨w.heap.size, 2, none⟩ = some (.int .i64 d.u.p.c) ∧ W.cell? ⟨w.heap.size, 3, none⟩ = some (.int .i64 d.u.p.v0) ∧ W.cell? ⟨w.heap.size, 4, none⟩ = some (.int .i64 d.u.p.v1) ∧ W.cell? ⟨w.heap.size, 5, none⟩ = some (.int .i64 d.u.p.v2) ∧ W.cell? ⟨w.heap.size, 6, none⟩ = some (.int .i64 d.u.p.v3) ∧ W.cell? ⟨w.heap.size, 7, none⟩ = some (.int .i64 d.u.p.t) ∧ W.cell? ⟨w.heap.size, 8, none⟩ = some (.slice d.A d.u.ps.length d.c) ∧ W.cell? ⟨w.heap.size, 9, none⟩ = some (.int .i64 d.u.n) ∧ W.cell? ⟨w.heap.size, 10, none⟩ = some (.int .i64 d.u.old)))
        unfold Ud.val at HO
        clear hub
        cases ho : oldB en.d.u d.u with
        | true =>
          rw [ho] at HO
          have Ho := hide ho
          clear ho
          go_wp2_with fail
          go_region_held3 (fun W => W.cell? ⟨u, 2, none⟩ = some (.slice (some ⟨gl, 0, none⟩) L.length cl) ∧ W.cell? ⟨gl, i * 12, none⟩ = some (.int .i64 en.m) ∧ W.cell? ⟨gl, i * 12 + 1, none⟩ = some (.int .i64 en.d.u.kind) ∧ W.cell? ⟨gl, i * 12 + 2, none⟩ = some (.int .i64 en.d.u.id) ∧ W.cell? ⟨gl, i * 12 + 3, none⟩ = some (.int .i64 en.d.u.p.c) ∧ W.cell? ⟨gl, i * 12 + 4, none⟩ = some (.int .i64 en.d.u.p.v0) ∧ W.cell? ⟨gl, i * 12 + 5, none⟩ = some (.int .i64 en.d.u.p.v1) ∧ W.cell? ⟨gl, i * 12 + 6, none⟩ = some (.int .i64 en.d.u.p.v2) ∧ W.cell? ⟨gl, i * 12 + 7, none⟩ = some (.int .i64 en.d.u.p.v3) ∧ W.cell? ⟨gl, i * 12 + 8, none⟩ = some (.int .i64 en.d.u.p.t) ∧ W.cell? ⟨gl, i * 12 + 9, none⟩ = some (.slice en.d.A en.d.u.ps.length en.d.c) ∧ W.cell? ⟨gl, i * 12 + 10, none⟩ = some (.int .i64 en.d.u.n) ∧ W.cell? ⟨gl, i * 12 + 11, none⟩ = some (.int .i64 en.d.u.old) ∧ W.cell? ⟨w.heap.size, 0, none⟩ = some (.int .i64 d.u.kind) ∧ W.cell? ⟨w.heap.size, 1, none⟩ = some (.int .i64 d.u.id) ∧ W.cell? ⟨w.heap.size, 2, none⟩ = some (.int .i64 d.u.p.c) ∧ W.cell? ⟨w.heap.size, 3, none⟩ = some (.int .i64 d.u.p.v0) ∧ W.cell? ⟨w.heap.size, 4, none⟩ = some (.int .i64 d.u.p.v1) ∧ W.cell? ⟨w.heap.size, 5, none⟩ = some (.int .i64 d.u.p.v2) ∧ W.cell? ⟨w.heap.size, 6, none⟩ = some (.int .i64 d.u.p.v3) ∧ W.cell? ⟨w.heap.size, 7, none⟩ = some (.int .i64 d.u.p.t) ∧ W.cell? ⟨w.heap.size, 8, none⟩ = some (.slice d.A d.u.ps.length d.c) ∧ W.cell? ⟨w.heap.size, 9, none⟩ = some (.int .i64 d.u.n) ∧ W.cell? ⟨w.heap.size, 10, none⟩ = some (.int .i64 d.u.old)) (first | with_reducible exact q | with_reducible exact K1 | with_reducible exact K2)
            (first
              | (go_at_call 41; (with_reducible refine (HL2.out _ (show Fr [] w _ by exact Hf.out.2.1.drew)).mono ?_); rintro e y1 ⟨rfl, hf1⟩; have Y1 := hide hf1; have K1 := HSq.out _ hf1; clear hf1)
              | (go_at_call 42; (with_reducible refine (HO.out _).mono ?_); rintro e y2 ⟨rfl, hf2⟩; have Y2 := hide (Y1.out.trans hf2); have K2 := HSq.out _ Y2.out; clear hf2))
          go_wp2_with fail
          go_ret
          refine .inl ⟨?_, rfl, (Hf.out.2.1.drew).trans Y2.out⟩
          rw [List.any_eq_true]
          refine ⟨y, List.mem_of_getElem? Hy.out.1, ?_⟩
          rw [← Hy.out.2.1]
          unfold hitR En.say
          rw [← Hlm.out, decide_eq_true Hm.out, Ho.out]
          rfl
        | false =>
          rw [ho] at HO
          have Ho := hide ho
          clear ho
          go_wp2_with fail
          go_region_held3 (fun W => W.cell? ⟨u, 2, none⟩ = some (.slice (some ⟨gl, 0, none⟩) L.length cl) ∧ W.cell? ⟨gl, i * 12, none⟩ = some (.int .i64 en.m) ∧ W.cell? ⟨gl, i * 12 + 1, none⟩ = some (.int .i64 en.d.u.kind) ∧ W.cell? ⟨gl, i * 12 + 2, none⟩ = some (.int .i64 en.d.u.id) ∧ W.cell? ⟨gl, i * 12 + 3, none⟩ = some (.int .i64 en.d.u.p.c) ∧ W.cell? ⟨gl, i * 12 + 4, none⟩ = some (.int .i64 en.d.u.p.v0) ∧ W.cell? ⟨gl, i * 12 + 5, none⟩ = some (.int .i64 en.d.u.p.v1) ∧ W.cell? ⟨gl, i * 12 + 6, none⟩ = some (.int .i64 en.d.u.p.v2) ∧ W.cell? ⟨gl, i * 12 + 7, none⟩ = some (.int .i64 en.d.u.p.v3) ∧ W.cell? ⟨gl, i * 12 + 8, none⟩ = some (.int .i64 en.d.u.p.t) ∧ W.cell? ⟨gl, i * 12 + 9, none⟩ = some (.slice en.d.A en.d.u.ps.length en.d.c) ∧ W.cell? ⟨gl, i * 12 + 10, none⟩ = some (.int .i64 en.d.u.n) ∧ W.cell? ⟨gl, i * 12 + 11, none⟩ = some (.int .i64 en.d.u.old) ∧ W.cell? ⟨w.heap.size, 0, none⟩ = some (.int .i64 d.u.kind) ∧ W.cell? ⟨w.heap.size, 1, none⟩ = some (.int .i64 d.u.id) ∧ W.cell? ⟨w.heap.size, 2, none⟩ = some (.int .i64 d.u.p.c) ∧ W.cell? ⟨w.heap.size, 3, none⟩ = some (.int .i64 d.u.p.v0) ∧ W.cell? ⟨w.heap.size, 4, none⟩ = some (.int .i64 d.u.p.v1) ∧ W.cell? ⟨w.heap.size, 5, none⟩ = some (.int .i64 d.u.p.v2) ∧ W.cell? ⟨w.heap.size, 6, none⟩ = some (.int .i64 d.u.p.v3) ∧ W.cell? ⟨w.heap.size, 7, none⟩ = some (.int .i64 d.u.p.t) ∧ W.cell? ⟨w.heap.size, 8, none⟩ = some (.slice d.A d.u.ps.length d.c) ∧ W.cell? ⟨w.heap.size, 9, none⟩ = some (.int .i64 d.u.n) ∧ W.cell? ⟨w.heap.size, 10, none⟩ = some (.int .i64 d.u.old)) (first | with_reducible exact q | with_reducible exact K1 | with_reducible exact K2)
            (first
              | (go_at_call 41; (with_reducible refine (HL2.out _ (show Fr [] w _ by exact Hf.out.2.1.drew)).mono ?_); rintro e y1 ⟨rfl, hf1⟩; have Y1 := hide hf1; have K1 := HSq.out _ hf1; clear hf1)
              | (go_at_call 42; (with_reducible refine (HO.out _).mono ?_); rintro e y2 ⟨rfl, hf2⟩; have Y2 := hide (Y1.out.trans hf2); have K2 := HSq.out _ Y2.out; clear hf2))
          go_wp2_with fail
          go_roundw
          case rel =>
            refine ⟨i + 1, by omega, by go_num, fun j hj z hz => ?_, (Hf.out.1.drew).trans Y2.out⟩
            rcases Nat.lt_or_ge j i with hlt | hge
            · exact Hf.out.2.2 j hlt z hz
            · obtain rfl : j = i := by omega
              obtain rfl : y = z := Option.some.inj (Hy.out.1.symm.trans hz)
              rw [← Hy.out.2.1]
              unfold hitR En.say
              rw [Ho.out]
              simp
          case measure => simp [intOf]; omega
      · have hme : (en.m == lm) = false := by simp [hm]
        have Hm := hide hm
        clear hm
        go_wp2_with fail
        go_quiet ((go_at_call 41; exact Calls.quiet_of ((HLq.out _).mono fun _ _ h => ⟨h.1, h.2.imp fun _ e => e.symm⟩)))
        go_wp2_with fail
        go_roundw
        case rel =>
          refine ⟨i + 1, by omega, by go_num, fun j hj z hz => ?_, Hf.out.1.drewN _⟩
          rcases Nat.lt_or_ge j i with hlt | hge
          · exact Hf.out.2.2 j hlt z hz
          · obtain rfl : j = i := by omega
            obtain rfl : y = z := Option.some.inj (Hy.out.1.symm.trans hz)
            rw [← Hy.out.2.1]
            unfold hitR En.say
            rw [← Hlm.out, decide_eq_false Hm.out]
            rfl
        case measure => simp [intOf]; omega
    · have hnot : L.any (hitR ms d.u) = false := by
        rw [List.any_eq_false]
        intro y hy
        obtain ⟨j, hj⟩ := List.getElem?_of_mem hy
        have hjl := (List.getElem?_eq_some_iff.1 hj).1
        rw [Hf.out.2.2 j (by omega) y hj]
        simp
      have Hnot := hide hnot
      have u0 := ((HH.out.2.1.fr0 Hf.out.2.1)).at_ 0 (v := .int .i64 most) rfl
      subst hlv
      clear hnot
      by_cases hfull : most ≤ (L.length : Int)
      · have hfull' : decide ((L.length : Int) ≥ most) = true := decide_eq_true hfull
        go_wp2_with fail
        go_quiet (fail)
        go_wp2_with fail
        go_ret
        exact .inr (.inl ⟨Hnot.out, hfull, rfl, Hf.out.2.1.drewN _⟩)
      · have hfull' : decide ((L.length : Int) ≥ most) = false := decide_eq_false hfull
        go_wp2_with fail
        go_quiet (fail)
        go_wp2_with fail
        have hub := (HU.out.1.fr0 H1.out.1).fr0 Hf.out.1
        rw [HU.out.2] at hub
        obtain ⟨wq, hwq⟩ : ∃ wq, wq = wr.drewN nq := ⟨_, rfl⟩
        rw [← hwq]
        have hfq : Fr [] wr wq := by rw [hwq]; exact (Fr.refl _ _).drewN _
        have hubq := hub.fr0 hfq
        have b0 := hubq.at_ 0 rfl
        have b1 := hubq.at_ 1 rfl
        have b2 := hubq.at_ 2 rfl
        have b3 := hubq.at_ 3 rfl
        have b4 := hubq.at_ 4 rfl
        have b5 := hubq.at_ 5 rfl
        have b6 := hubq.at_ 6 rfl
        have b7 := hubq.at_ 7 rfl
        have b8 := hubq.at_ 8 rfl
        have b9 := hubq.at_ 9 rfl
        have b10 := hubq.at_ 10 rfl
        have lubq := hubq.lt
        have hgq := HH.out.2.1.fr0 (Hf.out.2.1.trans hfq)
        have u2q := hgq.at_ 2 (v := .slice Al L.length cl0) rfl
        have lgq := hgq.lt
        have zgq := hgq.frozen 2
        have hrq := row_fr HH.out.2.2.1 (Hf.out.2.1.trans hfq) (by simp)
        have hszq : w.heap.size < wq.heap.size := lubq
        have HQ := hide (And.intro hubq (And.intro hgq (And.intro hrq (Hf.out.2.1.trans hfq))))
        obtain ⟨i0, hi0, hz0, hs0, hb0⟩ := info_parts infoEntry
        clear hub hwq hfq hubq hgq hrq u0 u2 lur
        go_upto_region 12 with (fail)
        go_cut [71] (fun s71 wx => RNoteMid B w u most ms L T lm d wx)
        case first =>
          go_region_law (first
            | (refine step_append_copy (by rfl) _ _ _ (by rfl) B B 95 i0 _ 12 112 Tryd.underlying59 hi0 hz0 hs0 hb0 rfl (by omega) _ (by rfl) (by repeat (first | exact Blk.new_at _ _ _ _ (by simp; done) | exact Blk.new _ _ _ | refine Blk.drew ?_ | refine Blk.drewN ?_ _ | refine Blk.alloc ?_ _)) (by have := HQ.out.2.2.2.size; omega) (.slice Al L.length cl0) L.length (es.flatMap En.cells) (by rfl) (row_fr HQ.out.2.2.1 (show Fr [] wq _ by (repeat (first | exact Fr.refl _ _ | apply Fr.drew | apply Fr.drewN | apply Fr.alloc | (refine Fr.setCell ?_ (by first | (left; simp [Value.ownBlock]; done) | (right; simp; omega) | (right; simp; done)) _)))) (by simp)) (ens_one es) (by unfold maxLen; omega) (by omega) _ rfl ?_; intro gA kA w4 hown4 hgrow4 hat4 hlt4; have hF4 : Fr [] wq w4 := (show Fr [] wq _ by (repeat (first | exact Fr.refl _ _ | apply Fr.drew | apply Fr.drewN | apply Fr.alloc | (refine Fr.setCell ?_ (by first | (left; simp [Value.ownBlock]; done) | (right; simp; omega) | (right; simp; done)) _)))).grown hgrow4 (fun k hk => .inr (by have e9 := Option.some.inj hk; omega)); have hgA : wq.heap.size ≤ gA := (by first | omega | (simp at hat4; omega)); have g4 := (HQ.out.2.1.fr0 hF4); have gu4 := g4.at_ 2 (v := .slice Al L.length cl0) rfl; have gz4 := g4.frozen 2; have gl4 := g4.lt; have ub4 := HQ.out.1.fr0 hF4; have v0 := ub4.at_ 0 rfl; have v1 := ub4.at_ 1 rfl; have v2 := ub4.at_ 2 rfl; have v3 := ub4.at_ 3 rfl; have v4 := ub4.at_ 4 rfl; have v5 := ub4.at_ 5 rfl; have v6 := ub4.at_ 6 rfl; have v7 := ub4.at_ 7 rfl; have v8 := ub4.at_ 8 rfl; have v9 := ub4.at_ 9 rfl; have v10 := ub4.at_ 10 rfl; have vl4 := ub4.lt; have HKB := hide (fun (b : Nat) (t : TypeId) (cs : Array Value) hb hne => Blk.grown (g := b) (t := t) (cs := cs) hb hgrow4 hne); have H4 := hide (And.intro hown4 (And.intro hF4 hgA)); clear hown4 hgrow4 hat4 hlt4 hF4 hgA g4 ub4)
            | (refine step_append_lies _ (by rfl) _ _ _ (by rfl) B 95 i0 _ 12 112 Tryd.underlying59 hi0 hz0 hs0 hb0 rfl (by omega) (.slice (some ⟨gA, 0, none⟩) L.length kA) L.length (es.flatMap En.cells) (by rfl) (row_fr H4.out.1 (show Fr [] w4 _ by (repeat (first | exact Fr.refl _ _ | apply Fr.drew | apply Fr.drewN | apply Fr.alloc | (refine Fr.setCell ?_ (by first | (left; simp [Value.ownBlock]; done) | (right; simp; omega) | (right; simp; done)) _)))) (by simp)) _ 1 1 (En.cells ⟨lm, d⟩) (by rfl) (by rfl) (blk_news (arr := #[.int .i64 lm, .int .i64 d.u.kind, .int .i64 d.u.id, .int .i64 d.u.p.c, .int .i64 d.u.p.v0, .int .i64 d.u.p.v1, .int .i64 d.u.p.v2, .int .i64 d.u.p.v3, .int .i64 d.u.p.t, .slice d.A d.u.ps.length d.c, .int .i64 d.u.n, .int .i64 d.u.old]) (t := 95) (by first | (repeat (first | exact Blk.new_at _ _ _ _ (by simp; done) | exact Blk.new _ _ _ | refine Blk.drew ?_ | refine Blk.drewN ?_ _ | refine Blk.alloc ?_ _); done) | (repeat (first | exact HKB.out _ _ _ (by repeat (first | exact Blk.new_at _ _ _ _ (by simp; done) | exact Blk.new _ _ _ | refine Blk.drew ?_ | refine Blk.drewN ?_ _ | refine Blk.alloc ?_ _)) (by simp; omega) | refine Blk.drew ?_ | refine Blk.drewN ?_ _ | refine Blk.alloc ?_ _))) 0 (fun j v hv => by rw [Nat.zero_add, ← Array.getElem?_toList]; exact hv)) (by simp [En.cells, Ud.cells, Value.oneCell']) (by omega) (by unfold maxLen; omega) (by omega) (Nat.le_trans hB (Nat.le_trans HQ.out.2.2.2.size (show Fr [] wq _ by (repeat (first | exact Fr.refl _ _ | exact H4.out.2.1 | apply Fr.drew | apply Fr.drewN | apply Fr.alloc))).size)) _ rfl ?_; intro g2 k2 w6 hown6 hgrow6 hat6 hlt6; have hF6 : Fr [] wq w6 := (show Fr [] wq _ by (repeat (first | exact Fr.refl _ _ | exact H4.out.2.1 | apply Fr.drew | apply Fr.drewN | apply Fr.alloc))).grown hgrow6 (fun k hk => .inr (by have e9 : gA = k := Option.some.inj hk; have := H4.out.2.2; omega)); have hg2 : wq.heap.size ≤ g2 := (by have h9 := H4.out.2.1.size; have h8 := H4.out.2.2; rcases hat6 with e | e; (have e9 : gA = g2 := Option.some.inj e; omega); (first | omega | (simp at e; omega))); have g6 := HQ.out.2.1.fr0 hF6; have gu6 := g6.at_ 2 (v := .slice Al L.length cl0) rfl; have gz6 := g6.frozen 2; have gl6 := g6.lt; have HX := hide (And.intro hown6 (And.intro hF6 hg2)); clear hown6 hgrow6 hat6 hlt6 hF6 hg2 g6)
            | (refine step_open (by rfl) ?_; go_wp2_with fail; go_at_call 41; (with_reducible refine (HL.out _ (HQ.out.2.2.2.trans (show Fr [] wq _ by (repeat (first | exact Fr.refl _ _ | exact H4.out.2.1 | apply Fr.drew | apply Fr.drewN | apply Fr.alloc))))).mono ?_); rintro e y1 ⟨rfl, n1, rfl⟩; go_wp2_with fail))
          all_goals
            go_wp2_with fail
            go_meet
            exact rj_entries HH.out.1 (HQ.out.2.2.2.trans HX.out.2.1) (es' := es ++ [⟨lm, d⟩]) (L' := L ++ [(lm, d.u)]) (by rw [List.length_append, List.flatMap_append]; simpa using HX.out.1) (by rw [List.map_append, HH.out.2.2.2.1]; rfl) (fun e he => by
              rcases List.mem_append.1 he with he | he
              · exact (HH.out.2.2.2.2.1 e he).fr0 (HQ.out.2.2.2.trans HX.out.2.1)
              · rw [List.mem_singleton] at he; subst he; exact HH.out.2.2.2.2.2.fr0 (HQ.out.2.2.2.trans HX.out.2.1)) (fun b hb => by
              have e9 : g2 = b := Option.some.inj hb
              have := HX.out.2.2
              omega)
        case rest =>
          go_wp2_with fail
          go_ret
          refine .inr (.inr ⟨Hnot.out, hfull, rfl, ?_⟩)
          rw [← Hlm.out]
          exact hcut
end Go.Proofs.YtioeafjlbdpjoaaDoor

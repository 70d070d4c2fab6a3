/- The journal of the reference: keep, Forget. -/
import Derived.Test.YtioeafjlbdpjoaaDoorRefJ2
namespace Go.Proofs.YtioeafjlbdpjoaaDoor
open Go.RowKit
def inB (lo hi x : Int) : Bool := decide (lo ≤ x) && decide (x ≤ hi)
theorem En.row' {B : Nat} {w : World} {lv : Value} {L : List (Int × Un)} {es : List En} (h : w.ownsRow B 95 12 lv L.length (es.flatMap En.cells)) (hL : es.map En.say = L) {i : Nat} (hi : i < L.length) : ∃ gl cl en, lv = .slice (some ⟨gl, 0, none⟩) L.length cl ∧ es[i]? = some en ∧ gl < w.heap.size ∧ ∀ j v, en.cells[j]? = some v → w.cell? ⟨gl, i * 12 + j, none⟩ = some v := by
  have h1 : es.length = L.length := by rw [← hL, List.length_map]
  obtain ⟨en, he⟩ : ∃ en, es[i]? = some en := ⟨_, List.getElem?_eq_getElem (by omega)⟩
  rcases row_form h with ⟨_, h0, _⟩ | ⟨g, cap, rfl, _, hl, _⟩
  · omega
  · refine ⟨g, cap, en, rfl, he, hl, fun j v hv => row_cell h ?_⟩
    have hj : j < 12 := by rw [← En.cells_len en]; exact (List.getElem?_eq_some_iff.1 hv).1
    rw [flat_get En.cells_len he j hj, hv]
theorem filter_snoc {α : Type} (p : α → Bool) (l : List α) {i : Nat} {x : α} (hx : l[i]? = some x) : (l.take (i + 1)).filter p = (l.take i).filter p ++ (if p x then [x] else []) := by
  rw [List.take_add_one, hx, List.filter_append]
  cases h : p x <;> simp [h]
theorem rj_sl {w : World} {B : Nat} {e : TypeId} {size n : Nat} {v : Value} {xs : List Value} (h : w.ownsRow B e size v n xs) : ∃ A c, v = .slice A n c := by
  obtain ⟨A, c, h, _⟩ := (show ∃ A c, v = .slice A n c ∧ True from by
    rcases row_form h with ⟨rfl, h0, _⟩ | ⟨g, cap, rfl, _⟩
    · exact ⟨none, 0, by rw [h0], trivial⟩
    · exact ⟨_, _, rfl, trivial⟩)
  exact ⟨A, c, h⟩
theorem row_base {w : World} {B B' : Nat} {e : TypeId} {size n : Nat} {v : Value} {xs : List Value} (h : w.ownsRow B e size v n xs) (hb : B' ≤ B) : w.ownsRow B' e size v n xs := ⟨h.1, h.2.imp id fun ⟨g, cap, cur, h1, h2, h3⟩ => ⟨g, cap, cur, h1, Nat.le_trans hb h2, h3⟩⟩
theorem rj_both {B : Nat} {w w6 : World} {u : Nat} {most : Int} {ms ms' : List Int} {L L' : List (Int × Un)} {T : List Nat} {v1 v2 : Value} {es' : List En} (h : RJ B w u most ms L T) (hf : Fr [] w w6) (hr1 : w6.ownsRow B 3 1 v1 ms'.length (ints ms')) (hr : w6.ownsRow B 95 12 v2 L'.length (es'.flatMap En.cells)) (hL : es'.map En.say = L') (hok : ∀ e ∈ es', PsOk (· < B) w6 e.d)
    (hv1 : ∀ b, v1.ownBlock = some b → w.heap.size ≤ b) (hv : ∀ b, v2.ownBlock = some b → w.heap.size ≤ b) :
    ∃ T', RJ B ((w6.setCell ⟨u, 1, none⟩ v1).setCell ⟨u, 2, none⟩ v2) u most ms' L' T' ∧ Stp T T' w ((w6.setCell ⟨u, 1, none⟩ v1).setCell ⟨u, 2, none⟩ v2) := by
  have h' := h.fr0 hf
  obtain ⟨mv, lv, es, h1, h2, h3, h4, h5, h6, rfl⟩ := h'
  have hfin : Fr [u] w6 ((w6.setCell ⟨u, 1, none⟩ v1).setCell ⟨u, 2, none⟩ v2) := ((Fr.refl _ _).setCell (.inl (by simp)) _).setCell (.inl (by simp)) _
  refine ⟨u :: (v1.ownBlock.toList ++ v2.ownBlock.toList), ⟨v1, v2, es', by simpa using (h1.set_ 1 v1).set_ 2 v2, row_fr hr1 hfin (fun k hk hm => row_blk_ne hr1 h1 (by decide) (by rw [hk]; simpa using hm)), row_fr hr hfin (fun k hk hm => row_blk_ne hr h1 (by decide) (by rw [hk]; simpa using hm)), hL, fun e he => (hok e he).keep hfin (fun b hb hm => by simp at hm; omega), h6, rfl⟩,
    ((hf.any _).setCell (.inl (by simp)) _).setCell (.inl (by simp)) _, fun b hb => ?_⟩
  simp only [List.mem_cons, List.mem_append, Option.mem_toList] at hb ⊢
  rcases hb with rfl | hb | hb
  · exact .inl (.inl rfl)
  · exact .inr (hv1 b hb)
  · exact .inr (hv b hb)
set_option maxRecDepth 100000 in
set_option maxHeartbeats 8000000 in
theorem keep_calls {B : Nat} {w : World} {u : Nat} {most : Int} {ms : List Int} {L : List (Int × Un)} {T : List Nat} (h : RJ B w u most ms L T) (hB : B ≤ w.heap.size) (hn : ms.length ≤ 1000000) (hLl : L.length ≤ 1000000) (lo tp : Int) :
    Calls Tryd.prog 43 #[ptr u, .int .i64 lo, .int .i64 tp] w fun e w' => e = .returned (.tuple #[]) ∧ ∃ T', RJ B w' u most (ms.filter (inB lo tp)) (L.filter fun e => inB lo tp e.1) T' ∧ Stp T T' w w' := by
  have HR := hide h
  obtain ⟨mv, lv, es, q1, q2, q3, q4, q5, q6, q7⟩ := h
  obtain ⟨i0, hi0, hz0, hs0, hb0⟩ := info_parts infoIntR
  obtain ⟨i1, hi1, hz1, hs1, hb1⟩ := info_parts infoEntry
  obtain ⟨Am, cm, rfl⟩ := rj_sl q2
  obtain ⟨Al, cl, rfl⟩ := rj_sl q3
  have lu := q1.lt
  have HH := hide (And.intro q1 (And.intro q2 (And.intro q3 (And.intro q4 q5))))
  have hel : es.length = L.length := by rw [← q4, List.length_map]
  clear q1 q2 q3 q4 q5 q6 q7
  go_enter Tryd.func43, Tryd.ntmps43
  go_wp2_with fail
  go_loopw [6, 8] (fun s6 s8 wr => ∃ i : Nat, i ≤ ms.length ∧ s8 = .int .i64 i ∧ wr.ownsRow w.heap.size 3 1 s6 ((ms.take i).filter (inB lo tp)).length (ints ((ms.take i).filter (inB lo tp))) ∧ Blk wr (w.heap.size + 1) 95 #[] ∧ Fr [] w wr) (fun _ s8 _ => ms.length - (intOf s8).toNat)
  case atStart =>
    exact ⟨0, by omega, rfl, row_mk (cur := #[]) ((Blk.new w 3 #[]).alloc _) (Nat.le_refl _) (Nat.le_refl _) (by simp [maxLen]) rfl rfl, Blk.new_at _ _ _ _ (by simp), ((Fr.refl _ _).alloc _).alloc _⟩
  case round =>
    obtain ⟨i, hi, rfl, hr, hbk, hf⟩ := hrel
    have j0 : (0 : Int) ≤ (i : Int) := by omega
    have g1 := ((HH.out.1).fr0 hf).at_ 1 (v := .slice Am ms.length cm) rfl
    have lur := Nat.lt_of_lt_of_le lu hf.size
    have hfs := hf.size
    have Hr := hide (And.intro hr (And.intro hbk hf))
    by_cases hin : i < ms.length
    · have j1 : (i : Int) < (ms.length : Int) := by omega
      obtain ⟨x, hx⟩ : ∃ x, ms[i]? = some x := ⟨_, List.getElem?_eq_getElem hin⟩
      obtain ⟨gm, rfl⟩ : ∃ gm, Am = some ⟨gm, 0, none⟩ := by
        rcases row_form HH.out.2.1 with ⟨_, h0, _⟩ | ⟨g, cap, e, _⟩
        · omega
        · injection e with e; exact ⟨g, e⟩
      have hcx := row_cell (row_fr HH.out.2.1 hf (by simp)) (i := i) (u := .int .i64 x) (by unfold ints; rw [List.getElem?_map, hx]; rfl)
      have lgm := World.block_lt_of_cell? wr _ hcx
      have hfl := filter_snoc (inB lo tp) ms hx
      have Hfl := hide hfl
      have hkl : ((ms.take i).filter (inB lo tp)).length ≤ 1000000 := Nat.le_trans (List.length_filter_le _ _) (by rw [List.length_take]; omega)
      clear hr hbk hf hx hfl
      generalize (ms.take i).filter (inB lo tp) = fs at *
      by_cases hlo : lo ≤ x
      · have hlo' : decide (x ≥ lo) = true := decide_eq_true hlo
        by_cases hhi : x ≤ tp
        · have hhi' : decide (x ≤ tp) = true := decide_eq_true hhi
          have hp : inB lo tp x = true := by simp [inB, hlo, hhi]
          rw [if_pos hp] at Hfl
          have Hfl2 := Hfl
          clear hp Hfl
          go_wp2_with (at_builtin; refine wpList_append_lies _ rfl _ _ _ rfl w.heap.size 3 i0 _ 1 8 Tryd.underlying22 hi0 hz0 hs0 hb0 rfl (by omega) (u6) (fs.length) ((ints fs)) rfl ((Hr.out.1.alloc _)) ⟨wr.heap.size, 0, none⟩ 1 1 [(.int .i64 x)] rfl rfl (World.news_of_block (cs := #[(.int .i64 x)]) (t := 3) (fr := (0, 0)) (Blk.new_at _ _ _ _ (by simp))) (by simp [Value.oneCell']) (by omega) (by unfold maxLen; omega) (by omega) (by simp; omega) (wr.heap.size + 1) (by simp) ?_; intro ag0 ac0 aw0 aown0 agrow0 aat0 alt0)
          go_roundw
          case rel =>
            have hfr := (Hr.out.2.2.alloc (.cells #[.int .i64 x] 3)).step (T := u6.ownBlock.toList) ((Fr.refl _ _).grown agrow0 fun k hk => .inl (by simp [hk])) (fun x hx => .inr (row_lt Hr.out.1 (by simpa using hx)).2)
            refine ⟨i + 1, by omega, by go_num, ?_, (Hr.out.2.1.alloc _).grown agrow0 (fun e => row_blk_ne Hr.out.1 Hr.out.2.1 (by decide) e.symm), hfr⟩
            rw [Hfl2.out, List.length_append]
            simpa [ints] using aown0
          case measure => simp [intOf]; omega
        · have hhi' : decide (x ≤ tp) = false := decide_eq_false hhi
          have hp : inB lo tp x = false := by simp [inB]; omega
          rw [hp] at Hfl
          have Hfl2 := Hfl
          clear hp Hfl
          go_wp2_with fail
          go_roundw
          case rel =>
            refine ⟨i + 1, by omega, by go_num, ?_, Hr.out.2.1, Hr.out.2.2⟩
            have := Hfl2.out
            simp only [Bool.false_eq_true, if_false, List.append_nil] at this
            rw [this]
            exact Hr.out.1
          case measure => simp [intOf]; omega
      · have hlo' : decide (x ≥ lo) = false := decide_eq_false hlo
        have hp : inB lo tp x = false := by simp [inB]; omega
        rw [hp] at Hfl
        have Hfl2 := Hfl
        clear hp Hfl
        go_wp2_with fail
        go_roundw
        case rel =>
          refine ⟨i + 1, by omega, by go_num, ?_, Hr.out.2.1, Hr.out.2.2⟩
          have := Hfl2.out
          simp only [Bool.false_eq_true, if_false, List.append_nil] at this
          rw [this]
          exact Hr.out.1
        case measure => simp [intOf]; omega
    · obtain rfl : i = ms.length := by omega
      rw [List.take_of_length_le (Nat.le_refl _)] at Hr
      obtain ⟨A6, c6, rfl⟩ := rj_sl Hr.out.1
      clear hr hbk hf
      go_wp2_with fail
      have Hq := Hr
      clear Hr g1 lur hfs hin hi j0
      obtain ⟨q, hqd⟩ : ∃ q, q = (ms.filter (inB lo tp)).length := ⟨_, rfl⟩
      rw [← hqd] at Hq ⊢
      have Hqd := hide hqd
      clear hqd
      go_loopw [7, 9] (fun s7 s9 wx => ∃ i : Nat, i ≤ L.length ∧ s9 = .int .i64 i ∧ wx.ownsRow w.heap.size 95 12 s7 ((es.take i).filter fun e => inB lo tp e.m).length (((es.take i).filter fun e => inB lo tp e.m).flatMap En.cells) ∧ wx.ownsRow w.heap.size 3 1 (.slice A6 q c6) q (ints (ms.filter (inB lo tp))) ∧ Fr [] w wx) (fun _ s9 _ => L.length - (intOf s9).toNat)
      case atStart =>
        exact ⟨0, by omega, rfl, row_mk (cur := #[]) Hq.out.2.1 (by omega) (Nat.le_refl _) (by simp [maxLen]) rfl rfl, Hq.out.1, Hq.out.2.2⟩
      case round =>
        obtain ⟨i, hi, rfl, hr, hr6, hf⟩ := hrel
        have j0 : (0 : Int) ≤ (i : Int) := by omega
        have g1 := ((HH.out.1).fr0 hf).at_ 2 (v := .slice Al L.length cl) rfl
        have lur := Nat.lt_of_lt_of_le lu hf.size
        have hfs := hf.size
        have Hr := hide (And.intro hr (And.intro hr6 hf))
        by_cases hin : i < L.length
        · have j1 : (i : Int) < (L.length : Int) := by omega
          obtain ⟨gl, cl', en, hsl, he, lgl, hc⟩ := En.row' (row_fr HH.out.2.2.1 hf (by simp)) HH.out.2.2.2.1 hin
          injection hsl with e1 e2 e3
          subst e1
          have hfl := filter_snoc (fun e : En => inB lo tp e.m) es he
          have Hfl := hide hfl
          have hkl : ((es.take i).filter fun e => inB lo tp e.m).length ≤ 1000000 := Nat.le_trans (List.length_filter_le _ _) (by rw [List.length_take]; omega)
          have c0 := hc 0 (.int .i64 en.m) rfl
          have c1 := hc 1 (.int .i64 en.d.u.kind) rfl
          have c2 := hc 2 (.int .i64 en.d.u.id) rfl
          have c3 := hc 3 (.int .i64 en.d.u.p.c) rfl
          have c4 := hc 4 (.int .i64 en.d.u.p.v0) rfl
          have c5 := hc 5 (.int .i64 en.d.u.p.v1) rfl
          have c6 := hc 6 (.int .i64 en.d.u.p.v2) rfl
          have c7 := hc 7 (.int .i64 en.d.u.p.v3) rfl
          have c8 := hc 8 (.int .i64 en.d.u.p.t) rfl
          have c9 := hc 9 (.slice en.d.A en.d.u.ps.length en.d.c) rfl
          have c10 := hc 10 (.int .i64 en.d.u.n) rfl
          have c11 := hc 11 (.int .i64 en.d.u.old) rfl
          rw [Nat.add_zero] at c0
          clear hr hr6 hf he hfl hc e2 e3
          generalize ((es.take i).filter fun e => inB lo tp e.m) = fs at *
          by_cases hlo : lo ≤ en.m
          · have hlo' : decide (en.m ≥ lo) = true := decide_eq_true hlo
            by_cases hhi : en.m ≤ tp
            · have hhi' : decide (en.m ≤ tp) = true := decide_eq_true hhi
              have hp : inB lo tp en.m = true := by simp [inB, hlo, hhi]
              rw [if_pos hp] at Hfl
              have Hfl2 := Hfl
              clear hp Hfl
              go_wp2_with ((at_builtin; refine wpList_append_lies _ rfl _ _ _ rfl w.heap.size 95 i1 _ 12 112 Tryd.underlying59 hi1 hz1 hs1 hb1 rfl (by omega) u7 fs.length (fs.flatMap En.cells) rfl (Hr.out.1.alloc _) ⟨wr.heap.size, 0, none⟩ 1 1 (En.cells en) rfl rfl (World.news_of_block (cs := #[.int .i64 en.m, .int .i64 en.d.u.kind, .int .i64 en.d.u.id, .int .i64 en.d.u.p.c, .int .i64 en.d.u.p.v0, .int .i64 en.d.u.p.v1, .int .i64 en.d.u.p.v2, .int .i64 en.d.u.p.v3, .int .i64 en.d.u.p.t, .slice en.d.A en.d.u.ps.length en.d.c, .int .i64 en.d.u.n, .int .i64 en.d.u.old]) (t := 95) (fr := (0, 0)) (Blk.new_at _ _ _ _ (by simp))) (by simp [En.cells, Ud.cells, Value.oneCell']) (by omega) (by unfold maxLen; omega) (by omega) (by simp; omega) (wr.heap.size + 1) (by simp) ?_; intro ag0 ac0 aw0 aown0 agrow0 aat0 alt0))
              go_roundw
              case rel =>
                have hfr := (Hr.out.2.2.alloc (.cells #[.int .i64 en.m, .int .i64 en.d.u.kind, .int .i64 en.d.u.id, .int .i64 en.d.u.p.c, .int .i64 en.d.u.p.v0, .int .i64 en.d.u.p.v1, .int .i64 en.d.u.p.v2, .int .i64 en.d.u.p.v3, .int .i64 en.d.u.p.t, .slice en.d.A en.d.u.ps.length en.d.c, .int .i64 en.d.u.n, .int .i64 en.d.u.old] 95)).step (T := u7.ownBlock.toList) ((Fr.refl _ _).grown agrow0 fun k hk => .inl (by simp [hk])) (fun x hx => .inr (row_lt Hr.out.1 (by simpa using hx)).2)
                refine ⟨i + 1, by omega, by go_num, ?_, row_grown (Hr.out.2.1.alloc _) agrow0 (fun b hb e => row_row_ne Hr.out.2.1 Hr.out.1 (by decide) b hb e), hfr⟩
                rw [Hfl2.out, List.length_append, List.flatMap_append]
                simpa using aown0
              case measure => simp [intOf]; omega
            · have hhi' : decide (en.m ≤ tp) = false := decide_eq_false hhi
              have hp : inB lo tp en.m = false := by simp [inB]; omega
              rw [hp] at Hfl
              have Hfl2 := Hfl
              clear hp Hfl
              go_wp2_with fail
              go_roundw
              case rel =>
                refine ⟨i + 1, by omega, by go_num, ?_, Hr.out.2.1, Hr.out.2.2⟩
                have := Hfl2.out
                simp only [Bool.false_eq_true, if_false, List.append_nil] at this
                rw [this]
                exact Hr.out.1
              case measure => simp [intOf]; omega
          · have hlo' : decide (en.m ≥ lo) = false := decide_eq_false hlo
            have hp : inB lo tp en.m = false := by simp [inB]; omega
            rw [hp] at Hfl
            have Hfl2 := Hfl
            clear hp Hfl
            go_wp2_with fail
            go_roundw
            case rel =>
              refine ⟨i + 1, by omega, by go_num, ?_, Hr.out.2.1, Hr.out.2.2⟩
              have := Hfl2.out
              simp only [Bool.false_eq_true, if_false, List.append_nil] at this
              rw [this]
              exact Hr.out.1
            case measure => simp [intOf]; omega
        · obtain rfl : i = L.length := by omega
          rw [List.take_of_length_le (by omega)] at Hr
          obtain ⟨A7, c7, rfl⟩ := rj_sl Hr.out.1
          have bu := (HH.out.1).fr0 hf
          have bz := bu.frozen
          have bz1 := bz 1
          have bz2 := bz 2
          have bc1 := bu.at_ 1 (v := .slice Am ms.length cm) rfl
          have hb6 : ∀ b, (Value.slice A6 q c6).ownBlock = some b → w.heap.size ≤ b := fun b hb => (row_lt hr6 hb).2
          have hb7 : ∀ b, (Value.slice A7 (es.filter fun e => inB lo tp e.m).length c7).ownBlock = some b → w.heap.size ≤ b := fun b hb => (row_lt Hr.out.1 hb).2
          have hmapf : (es.filter fun e => inB lo tp e.m).map En.say = L.filter fun e => inB lo tp e.1 := by
            rw [← HH.out.2.2.2.1, List.filter_map]
            rfl
          have hE := rj_both HR.out hf (ms' := ms.filter (inB lo tp)) (L' := L.filter fun e => inB lo tp e.1) (v1 := .slice A6 q c6) (v2 := .slice A7 (es.filter fun e => inB lo tp e.m).length c7) (es' := es.filter fun e => inB lo tp e.m) (by rw [← Hqd.out]; exact row_base Hr.out.2.1 hB)
            (by rw [← hmapf, List.length_map]; exact row_base Hr.out.1 hB) hmapf (fun e he => (HH.out.2.2.2.2 e (List.mem_filter.1 he).1).fr0 hf) hb6 hb7
          have HE := hide hE
          clear hr hr6 hf bu bz hb6 hb7 hmapf hE
          go_wp2_with fail
          go_end0
          exact ⟨rfl, HE.out⟩
end Go.Proofs.YtioeafjlbdpjoaaDoor

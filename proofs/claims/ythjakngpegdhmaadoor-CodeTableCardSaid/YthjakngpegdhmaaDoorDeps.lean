/- Depths of package code by contract. -/
import Derived.Test.YthjakngpegdhmaaDoorStep
import Derived.Test.YthjakngpegdhmaaDoorZeros
namespace Go.Proofs.YthjakngpegdhmaaDoor
open Go.RowKit

def rdInts (w : World) : Value → List Int
  | .slice (some a) k _ => (List.range k).map fun i => intOf ((w.cell? (a.add i)).getD .nilIface)
  | _ => []
def measW (g : Nat) (w : World) : Nat := 2 * unseen (rdInts w ((w.cell? ⟨g, 1, none⟩).getD .nilIface)) + (rdInts w ((w.cell? ⟨g, 2, none⟩).getD .nilIface)).length
theorem rdInts_row {w : World} {B : Nat} {v : Value} {ds : List Int} (h : w.ownsRow B 3 1 v ds.length (ints ds)) : rdInts w v = ds := by
  rcases row_form h with ⟨rfl, h0, _⟩ | ⟨g, cap, rfl, _⟩
  · rw [List.eq_nil_of_length_eq_zero h0]; rfl
  · unfold rdInts
    apply List.ext_getElem?
    intro i
    by_cases hi : i < ds.length
    · have := row_cell h (i := i) (u := .int .i64 ds[i]) (by simp [ints, hi])
      have e : (⟨g, 0, none⟩ : Addr).add i = ⟨g, i, none⟩ := by unfold Addr.add; by_cases h0 : i = 0 <;> simp [h0]
      rw [List.getElem?_map, List.getElem?_range hi, List.getElem?_eq_getElem hi, Option.map_some, e, this]
      simp [intOf]
    · rw [List.getElem?_eq_none (by simp; omega), List.getElem?_eq_none (by omega)]
section
variable {B : Nat} {w w' : World} {g : Nat} {A : Option Addr} {n c : Nat} {L : List Ins} {ds : List Int} {todo : List Nat} {S : List Nat}
theorem WkR.meas (h : WkR B w g A n c L ds todo S) : measW g w = 2 * unseen ds + todo.length := by
  obtain ⟨⟨gD, cD, vT, hg, hd, ht, -, -⟩, -, -, -, -, -⟩ := h
  have g1 := hg.at_ 1 (v := .slice (some ⟨gD, 0, none⟩) ds.length cD) rfl
  have g2 := hg.at_ 2 (v := vT) rfl
  have e2 := rdInts_row (ds := todo.map fun n : Nat => (n : Int)) (w := w) (B := B) (v := vT) (by simpa using ht)
  unfold measW
  rw [g1, g2, Option.getD_some, Option.getD_some, rdInts_row hd, e2, List.length_map]
end
theorem start_unseen (n : Nat) : 2 * unseen ((List.replicate (n + 1) (-1)).set 0 0) + [0].length ≤ 2 * n + 3 := by
  have h : unseen ((List.replicate (n + 1) (-1)).set 0 0) ≤ ((List.replicate (n + 1) (-1 : Int)).set 0 0).length := List.length_filter_le _ _
  simp at h ⊢
  omega
theorem WkR.pop {B : Nat} {w : World} {g : Nat} {A : Option Addr} {n c : Nat} {L : List Ins} {ds : List Int} {td : List Nat} {p : Nat} {S : List Nat} (h : WkR B w g A n c L ds (td ++ [p]) S) :
    ∃ gT cT, w.cell? ⟨g, 2, none⟩ = some (.slice (some ⟨gT, 0, none⟩) (td.length + 1) cT) ∧ w.cell? ⟨gT, td.length, none⟩ = some (.int .i64 p) ∧ w.frozen? ⟨g, 2, none⟩ = false ∧ td.length + 1 ≤ cT ∧ g < w.heap.size ∧ gT < w.heap.size ∧ g ≠ gT ∧
      WkR B (w.setCell ⟨g, 2, none⟩ (.slice (some ⟨gT, 0, none⟩) td.length cT)) g A n c L ds td S := by
  obtain ⟨⟨gD, cD, vT, hg, hd, ht, hne, rfl⟩, hB, hr, hl, hR, hRB⟩ := h
  rw [List.length_append, List.length_singleton] at ht
  rcases row_form ht with ⟨_, h0, _⟩ | ⟨gT, cT, rfl, hbT, lT, hcT, hmT⟩
  · omega
  have gTne : gT ≠ g := fun e => row_blk_ne ht hg (by decide) (by rw [e]; rfl)
  have gDne : gD ≠ g := fun e => row_blk_ne hd hg (by decide) (by rw [e]; rfl)
  have hbel : Below B w (w.setCell ⟨g, 2, none⟩ (.slice (some ⟨gT, 0, none⟩) td.length cT)) := ((Fr.refl [g] w).setCell (.inl (by simp)) _).below (by simp [hB]) (by have := hg.lt; omega)
  refine ⟨gT, cT, hg.at_ 2 rfl, row_cell ht (by simp [nats, ints]), hg.frozen 2, hcT, hg.lt, lT, Ne.symm gTne, ⟨gD, cD, .slice (some ⟨gT, 0, none⟩) td.length cT, hg.set_ 2 _, row_far hd (by simpa [Value.ownBlock] using gDne) _, ?_, hne, rfl⟩, hB, hr.below hbel, hl, hR.below hRB hbel, hRB⟩
  have := row_cut (row_far ht (p := ⟨g, 2, none⟩) (by simpa [Value.ownBlock] using gTne) (.slice (some ⟨gT, 0, none⟩) td.length cT)) (k := td.length) (by omega)
  simpa [nats, ints] using this
theorem WkR.end_ {B : Nat} {w : World} {g : Nat} {A : Option Addr} {n c : Nat} {L : List Ins} {ds : List Int} {S : List Nat} (h : WkR B w g A n c L ds [] S) {H : Nat} (hS : ∀ b ∈ S, H ≤ b) :
    ∃ gD cD, w.cell? ⟨g, 1, none⟩ = some (.slice (some ⟨gD, 0, none⟩) ds.length cD) ∧ (∃ A2 c2, w.cell? ⟨g, 2, none⟩ = some (.slice A2 0 c2)) ∧ g < w.heap.size ∧ w.ownsRow H 3 1 (.slice (some ⟨gD, 0, none⟩) ds.length cD) ds.length (ints ds) := by
  obtain ⟨⟨gD, cD, vT, hg, hd, ht, hne, rfl⟩, hB, hr, hl, hR, hRB⟩ := h
  obtain ⟨cur, a, _, b, c, d, e⟩ := row_blk hd
  refine ⟨gD, cD, hg.at_ 1 rfl, ?_, hg.lt, row_mk a (hS gD (by simp)) b c d e⟩
  rcases row_form ht with ⟨rfl, _, _⟩ | ⟨gT, cT, rfl, _⟩
  · exact ⟨_, _, hg.at_ 2 rfl⟩
  · exact ⟨_, _, hg.at_ 2 rfl⟩
/-- the loop over what is to do -/
def LpR (B : Nat) (w : World) (A : Option Addr) (n c : Nat) (L : List Ins) (wr : World) : Prop :=
  ∃ ds todo S, WkR B wr (w.heap.size + 1) A n c L ds todo S ∧ DInv L ds todo none ∧ Fr [] w wr ∧ (∀ b ∈ S, w.heap.size ≤ b) ∧ 2 * unseen ds + todo.length ≤ 2 * n + 3
def okI (n : Nat) (i : Ins) : Prop := isOp i.op = true ∧ (jumpsB i.op = true → 0 ≤ i.a ∧ i.a ≤ n)
def DepPost (B : Nat) (w : World) (L : List Ins) (e : Ending) (w' : World) : Prop :=
  Fr [] w w' ∧ ((∃ ds gD cD, Told L ds ∧ e = .returned (.tuple #[.slice (some ⟨gD, 0, none⟩) ds.length cD, .bool true]) ∧ w'.ownsRow w.heap.size 3 1 (.slice (some ⟨gD, 0, none⟩) ds.length cD) ds.length (ints ds)) ∨
    (Untold L ∧ e = .returned (.tuple #[.slice none 0 0, .bool false])))
theorem infoInts : (Tryd.prog.info? 3).map (fun i => (i.zero, i.size, i.bytes)) = some (some (.int .i64 0), 1, 8) := infoInt
theorem rep_ints (n : Nat) : (List.replicate n ()).flatMap (fun _ => [Value.int .i64 0]) = ints (List.replicate n 0) := by
  induction n with
  | zero => rfl
  | succ n ih => rw [List.replicate_succ, List.replicate_succ, List.flatMap_cons, ih]; rfl
def fillL (n i : Nat) : List Int := List.replicate i (-1) ++ List.replicate (n - i) 0
theorem fill_len {n i : Nat} (h : i ≤ n) : (fillL n i).length = n := by simp [fillL]; omega
theorem fill_set {n i : Nat} (h : i < n) : (ints (fillL n i)).set i (.int .i64 (-1)) = ints (fillL n (i + 1)) := by
  rw [ints_set]
  congr 1
  unfold fillL
  rw [List.set_append_right _ _ (by simp), List.length_replicate, Nat.sub_self]
  obtain ⟨k, hk⟩ : ∃ k, n - i = k + 1 := ⟨n - i - 1, by omega⟩
  rw [hk, List.replicate_succ, List.set_cons_zero, show n - (i + 1) = k from by omega, List.replicate_succ', List.append_assoc]
  rfl
theorem fill_all (n : Nat) : fillL n n = List.replicate n (-1) := by simp [fillL]
theorem isPlace_calls {w : World} (a s : Int) : Calls Tryd.prog 24 #[.int .i64 a, .int .i64 s] w fun e w' => e = .returned (.bool (decide (0 ≤ a ∧ a ≤ s))) ∧ w = w' := by
  by_cases h1 : 0 ≤ a
  · by_cases h2 : a ≤ s
    · rw [show decide (0 ≤ a ∧ a ≤ s) = true from decide_eq_true ⟨h1, h2⟩]
      go_enter Tryd.func24, Tryd.ntmps24
      go_wp2_with fail
      go_ret
      exact ⟨by simp, rfl⟩
    · rw [show decide (0 ≤ a ∧ a ≤ s) = false from decide_eq_false (by omega)]
      go_enter Tryd.func24, Tryd.ntmps24
      go_wp2_with fail
      go_ret
      exact ⟨by simp, rfl⟩
  · rw [show decide (0 ≤ a ∧ a ≤ s) = false from decide_eq_false (by omega)]
    go_enter Tryd.func24, Tryd.ntmps24
    go_wp2_with fail
    go_ret
    exact ⟨by simp, rfl⟩
/-- the walk while its depths are laid -/
def FillW (B : Nat) (w : World) (A : Option Addr) (n c i : Nat) (wr : World) : Prop :=
  Blk wr (w.heap.size + 1) 78 #[.slice A n c, .slice (some ⟨w.heap.size, 0, none⟩) (n + 1) (n + 1), .slice none 0 0] ∧
  wr.ownsRow B 3 1 (.slice (some ⟨w.heap.size, 0, none⟩) (n + 1) (n + 1)) (n + 1) (ints (fillL (n + 1) i)) ∧ Fr [] w wr
theorem fill_start {B : Nat} {w : World} (hB : B ≤ w.heap.size) (n : Nat) (hn : n ≤ 1000) (A : Option Addr) (c : Nat) :
    FillW B w A n c 0 ((w.alloc (.cells (madeCells #[.int .i64 0] (n + 1)) 3)).alloc (.cells #[.slice A n c, .slice (some ⟨w.heap.size, 0, none⟩) (n + 1) (n + 1), .slice none 0 0] 78)) := by
  have hp0 := row_made (w := w) (B := B) (e := 3) (z := #[.int .i64 0]) (n := n + 1) hB (by decide) (by unfold maxLen; omega)
  rw [show (#[Value.int .i64 0] : Array Value).size = 1 from rfl, rep_ints, Nat.mul_one] at hp0
  refine ⟨Blk.new_at _ _ _ _ (by simp), ?_, ((Fr.refl [] w).alloc _).alloc _⟩
  have := hp0.alloc (.cells #[.slice A n c, .slice (some ⟨w.heap.size, 0, none⟩) (n + 1) (n + 1), .slice none 0 0] 78)
  simpa [fillL] using this
theorem FillW.step {B : Nat} {w : World} {A : Option Addr} {n c i : Nat} {wr : World} (h : FillW B w A n c i wr) (hi : i < n + 1) : FillW B w A n c (i + 1) (wr.setCell ⟨w.heap.size, i, none⟩ (.int .i64 (-1))) := by
  obtain ⟨hb, hd, hf⟩ := h
  refine ⟨hb.far (by simp) _, ?_, hf.setCell (.inr (by simp)) _⟩
  have := row_store hd i (by omega) (.int .i64 (-1))
  rwa [fill_set hi] at this
theorem FillW.wk {B : Nat} {w : World} {A : Option Addr} {n c : Nat} {wr : World} {L : List Ins} (h : FillW B w A n c (n + 1) wr) (hr : Reads w B 3 A n (L.flatMap encIns)) (hln : L.length = n) (hR : RowsT w) (hRB : 1 < B) (hB : B ≤ w.heap.size) :
    WkR B wr (w.heap.size + 1) A n c L (List.replicate (n + 1) (-1)) [] [w.heap.size + 1, w.heap.size] := by
  obtain ⟨hb, hd, hf⟩ := h
  rw [fill_all] at hd
  exact ⟨⟨w.heap.size, n + 1, .slice none 0 0, by simpa using hb, by simpa using hd, World.ownsRow_nil _ _ _ _, by simp [Value.ownBlock], by simp [Value.ownBlock]⟩, by omega, hr.below (hf.below (by simp) hB), hln, hR.fr0 hf, hRB⟩
set_option maxRecDepth 100000 in
set_option maxHeartbeats 4000000 in
theorem depths_calls {B : Nat} {w : World} {A : Option Addr} {n c : Nat} {L : List Ins} (hr : Reads w B 3 A n (L.flatMap encIns)) (hln : L.length = n) (hR : RowsT w) (hRB : 1 < B) (hB : B ≤ w.heap.size) (hn : n ≤ 1000) :
    Calls Tryd.prog 17 #[.slice A n c] w (DepPost B w L) := by
  obtain ⟨i0, hi0, hz0, hz1, hz2⟩ := info_parts infoInts
  have hmk := fun W => run_make_rowN (P := Tryd.prog) 46 3 i0 (.int .i64 0) Tryd.underlying46 hi0 hz0 .i64 .i64 (n + 1) (n + 1) (Nat.le_refl _) (by rw [hz2]; omega) (by omega) W
  rw [hz1] at hmk
  simp only [show ((n + 1 : Nat) : Int) = (n : Int) + 1 from by omega] at hmk
  have n0 : (0 : Int) ≤ (n : Int) := by omega
  have n1 : (n : Int) ≤ 1000 := by omega
  have HH := hide (And.intro hr (And.intro hln (And.intro hR (And.intro hRB hB))))
  have HB := hide hB
  clear hr hR
  go_enter Tryd.func17, Tryd.ntmps17
  go_wp2_with fail
  have H1 : Hid (FillW B w A n c 0 ((w.alloc (.cells (madeCells #[.int .i64 0] (n + 1)) 3)).alloc (.cells #[.slice A n c, .slice (some ⟨w.heap.size, 0, none⟩) (n + 1) (n + 1), .slice none 0 0] 78))) := hide (fill_start HB.out n hn A c)
  go_loopw [26] (fun s26 wr => ∃ i : Nat, i ≤ n + 1 ∧ s26 = .int .i64 i ∧ FillW B w A n c i wr) (fun s26 _ => n + 1 - (intOf s26).toNat)
  case atStart => exact ⟨0, by omega, rfl, H1.out⟩
  case round =>
    obtain ⟨i, hi, rfl, hF⟩ := hrel
    clear H1
    by_cases hi1 : i < n + 1
    · have HF := hide (hF.step hi1)
      obtain ⟨hb, hd, hf⟩ := hF
      have b1 := hb.at_ 1 (v := .slice (some ⟨w.heap.size, 0, none⟩) (n + 1) (n + 1)) rfl
      have lb := hb.lt
      have i0 : (0 : Int) ≤ (i : Int) := by omega
      have i1 : (i : Int) < (n : Int) + 1 := by omega
      have ld : w.heap.size < wr.heap.size := (row_lt hd rfl).1
      have fd := row_frozen hd i
      have kd := row_cell hd (ds_get (ds := fillL (n + 1) i) (p := i) (by rw [fill_len (by omega)]; exact hi1))
      clear hb hd hf
      go_wp2_with fail
      go_roundw
      case rel => exact ⟨i + 1, by omega, by go_num, HF.out⟩
      case measure => simp [intOf]; omega
    · have hin : i = n + 1 := by omega
      subst hin
      rw [show ((n + 1 : Nat) : Int) = (n : Int) + 1 from by omega]
      obtain ⟨w1, hw1⟩ : ∃ w1, w1 = wr := ⟨_, rfl⟩
      rw [← hw1] at hF ⊢
      clear hw1
      have HW := hide (And.intro (hF.wk HH.out.1 HH.out.2.1 HH.out.2.2.1 HH.out.2.2.2.1 HH.out.2.2.2.2) hF.2.2)
      have hw1 := hF.1.lt
      clear hF
      go_wp2_with fail
      go_loopw [38] (fun s38 wr => ∃ i : Nat, i ≤ n ∧ s38 = .int .i64 i ∧ (∀ j x, j < i → L[j]? = some x → okI n x) ∧ Fr [] w1 wr) (fun s38 _ => n - (intOf s38).toNat)
      case atStart => exact ⟨0, by omega, rfl, fun j x h => absurd h (by omega), Fr.refl _ _⟩
      case round =>
        obtain ⟨i, hi, rfl, hok, hf⟩ := hrel
        have HK := hide hok
        have HB1 := hide (Nat.le_trans HH.out.2.2.2.2 HW.out.2.size)
        have HW2 := hide (HW.out.1.fr0 HB1.out hf)
        have HB2 := hide (Nat.le_trans HB1.out hf.size)
        have Hf := hide (HW.out.2.trans hf)
        have Hf1 := hide hf
        clear hok hf
        by_cases hi1 : i < n
        · obtain ⟨x, hx⟩ : ∃ x, L[i]? = some x := ⟨_, List.getElem?_eq_getElem (by omega)⟩
          obtain ⟨bA, oA, eA, hbA, a0, a1, a2⟩ := ins_get HW2.out.rd hln hx
          have HX := hide hx
          clear hx
          have HR := hide HW2.out.rows
          obtain ⟨op, ia, ib⟩ := x
          simp only at a0 a1 a2
          have hoN : ¬ okI n ⟨op, ia, ib⟩ → Untold L := fun h => .inl fun hv => h ⟨(hv _ (List.mem_of_getElem? HX.out)).1, by have := (hv _ (List.mem_of_getElem? HX.out)).2; rw [hln] at this; exact this⟩
          have HoN := hide hoN
          have HoY : Hid (okI n ⟨op, ia, ib⟩ → ∀ j x, j < i + 1 → L[j]? = some x → okI n x) := hide fun h j x hj hx => by
            rcases Nat.lt_succ_iff_lt_or_eq.1 hj with h1 | rfl
            · exact HK.out j x h1 hx
            · obtain rfl := Option.some.inj (HX.out.symm.trans hx)
              exact h
          subst eA
          have i0 : (0 : Int) ≤ (i : Int) := by omega
          have i1 : (i : Int) < (n : Int) := by omega
          have lbA : bA < wr.heap.size := Nat.lt_of_lt_of_le hbA HB2.out
          have hO := hide (fun w1 (hf : Fr [] wr w1) => of_calls (w := w1) (HR.out.fr0 hf) op)
          have hJ := hide (fun w1 (hf : Fr [] wr w1) => jumps_calls (w := w1) (HR.out.fr0 hf) op)
          have hbo : okI n ⟨op, ia, ib⟩ ↔ (isOp op = true ∧ (jumpsB op = true → 0 ≤ ia ∧ ia ≤ n)) := Iff.rfl
          generalize rowOf op = r at *
          obtain ⟨rw_, ra, rt, rl⟩ := r
          simp only [encR] at hO
          have Hbo := hide hbo
          clear hoN hbo
          generalize isOp op = bo at *
          generalize jumpsB op = bj at *
          go_wp2_with fail
          refine (hO.out _ ((Fr.refl [] wr).alloc _)).mono ?_
          rintro e w2 ⟨rfl, hf2⟩
          have hbI := (Blk.new wr 50 #[.int .i64 op, .int .i64 ia, .int .i64 ib]).fr0 hf2
          have c0 := hbI.at_ 0 (v := .int .i64 op) rfl
          have lI := hbI.lt
          have HI := hide hbI
          have Hf2 := hide (((Fr.refl [] wr).alloc _).trans hf2)
          clear hbI hf2 hO a0 a1 a2
          generalize hnb : wr.heap.size = nb at *
          have Hnb := hide hnb
          clear hnb
          go_wp2_with fail
          refine (hJ.out _ (Hf2.out.alloc _)).mono ?_
          rintro e w3 ⟨rfl, hf3⟩
          have hbI := (HI.out.alloc _).fr0 hf3
          have c1 := hbI.at_ 1 (v := .int .i64 ia) rfl
          have lI3 := hbI.lt
          have Hf3 := hide ((Hf2.out.alloc _).trans hf3)
          clear hbI hf3 hJ c0 lI
          have HBad : Hid (¬ okI n ⟨op, ia, ib⟩ → DepPost B w L (.returned (.tuple #[.slice none 0 0, .bool false])) w3) := hide fun h => ⟨Hf.out.trans Hf3.out, .inr ⟨HoN.out h, rfl⟩⟩
          have HGood : Hid (okI n ⟨op, ia, ib⟩ → ∃ i' : Nat, i' ≤ n ∧ Value.int .i64 ((i : Int) + 1) = .int .i64 i' ∧ (∀ j x, j < i' → L[j]? = some x → okI n x) ∧ Fr [] w1 w3) := hide fun h => ⟨i + 1, by omega, by go_num, HoY.out h, Hf1.out.trans Hf3.out⟩
          cases bo
          · have hB := HBad.out fun h => by have := (Hbo.out.1 h).1; cases this
            have HE := hide hB
            clear hB
            go_wp2_with fail
            go_ret2
            exact HE.out
          · cases bj
            · have HG := hide (HGood.out (Hbo.out.2 ⟨rfl, fun h => by cases h⟩))
              go_wp2_with fail
              go_roundw
              case rel => exact HG.out
              case measure => simp [intOf]; omega
            · go_wp2_with fail
              refine (isPlace_calls ia n).mono ?_
              rintro e w4 ⟨rfl, rfl⟩
              by_cases hpl : 0 ≤ ia ∧ ia ≤ n
              · have HG := hide (HGood.out (Hbo.out.2 (by exact ⟨by trivial, fun _ => hpl⟩)))
                rw [decide_eq_true hpl]
                clear hpl
                go_wp2_with fail
                go_roundw
                case rel => exact HG.out
                case measure => simp [intOf]; omega
              · have HE := hide (HBad.out fun h => hpl ((Hbo.out.1 h).2 (by trivial)))
                rw [decide_eq_false hpl]
                clear hpl
                go_wp2_with fail
                go_ret2
                exact HE.out
        · have hin : i = n := by omega
          subst hin
          have HV : Hid (Valid L) := hide fun x hx => by
            obtain ⟨j, hj⟩ := List.getElem?_of_mem hx
            have hjl := (List.getElem?_eq_some_iff.1 hj).1
            have := HK.out j x (by omega) hj
            rw [← hln] at this
            exact this
          have HC := hide (come_calls HW2.out HB2.out 0 (by simp) (by simp; omega) (by simp) 0)
          have e0 := start_inv L
          rw [hln] at e0
          rw [e0.1] at HC
          have HI := hide e0.2
          clear e0
          go_wp2_with fail
          refine HC.out.mono ?_
          rintro e w2 ⟨rfl, S2, hW2, hS2⟩
          have HL0 : Hid (LpR B w A i c L w2) := hide ⟨_, _, S2, hW2, HI.out, (Hf.out.step hS2.fr (fun x hx => .inr (by simp at hx; omega))), (fun b hb => (hS2.2 b hb).elim (fun h => by simp at h; omega) fun h => Nat.le_trans Hf.out.size h), by rw [← hln]; exact start_unseen _⟩
          clear hW2 hS2 HC HI
          go_wp2_with fail
          go_loopw [12] (fun _ wr => LpR B w A i c L wr) (fun _ wr => measW (w.heap.size + 1) wr)
          case atStart => exact HL0.out
          case round =>
            clear HL0
            obtain ⟨ds, todo, S, hW, hI, hf, hS, hm⟩ := hrel
            have HM := hide hW.meas
            rcases List.eq_nil_or_concat todo with rfl | ⟨td, p, rfl⟩
            · have HI := hide hI
              have Hf := hide hf
              obtain ⟨gD, cD, b1, ⟨A2, c2, b2⟩, lb, he⟩ := hW.end_ hS
              have HE := hide he
              clear hW hI hf
              go_wp2_with fail
              go_ret2
              exact ⟨Hf.out, .inl ⟨ds, gD, cD, HI.out.told HV.out, rfl, HE.out⟩⟩
            · rw [List.concat_eq_append] at *
              obtain ⟨hI2, hpn, hpd⟩ := hI.pop
              obtain ⟨gT, cT, b2, bp, bf, hc, lb, lT, hne, hW2⟩ := hW.pop
              have hlen : td.length ≤ 4000 := by simp at hm; omega
              have HB3 := hide (Nat.le_trans HH.out.2.2.2.2 hf.size)
              have HS := hide (step_calls hW2 (by simp [World.setCell]; exact HB3.out) HV.out p hI2 (by rw [← hln]; exact hpn) hpd hn hlen)
              have Hf := hide (hf.setCell (p := ⟨w.heap.size + 1, 2, none⟩) (.inr (by simp)) (.slice (some ⟨gT, 0, none⟩) td.length cT))
              have HSg := hide hS
              have Hm := hide (And.intro hm HM.out)
              clear hW hI hI2 hf hW2 hS hm HM
              go_wp2_with fail
              refine HS.out.mono ?_
              rintro e w6 ⟨ok, ds', todo', S', rfl, hW6, hS6, hy, hn6⟩
              have hf6 := Hf.out.step hS6.fr fun x hx => .inr (HSg.out x hx)
              cases ok
              · have HE : Hid (DepPost B w L (.returned (.tuple #[.slice none 0 0, .bool false])) w6) := hide ⟨hf6, .inr ⟨.inr (hn6 rfl), rfl⟩⟩
                clear hW6 hS6 hy hn6 hf6
                go_wp2_with fail
                go_ret2
                exact HE.out
              · obtain ⟨hI6, hm6⟩ := hy rfl
                have hm7 := hW6.meas
                have hm8 := Hm.out
                simp only [List.length_append, List.length_singleton] at hm8
                have hsz := Hf.out.size
                have HE : Hid (LpR B w A i c L w6 ∧ measW (w.heap.size + 1) w6 < measW (w.heap.size + 1) wr) := hide ⟨⟨ds', todo', S', hW6, hI6, hf6, fun b hb => (hS6.2 b hb).elim (HSg.out b) fun h => Nat.le_trans hsz h, by omega⟩, by omega⟩
                clear hW6 hS6 hy hn6 hf6 hI6 hm6 hm7 hm8 hsz
                go_wp2_with fail
                go_roundw
                case rel => exact HE.out.1
                case measure => exact HE.out.2
end Go.Proofs.YthjakngpegdhmaaDoor

/- step of package code by contract. -/
import Derived.Test.YthjakngpegdhmaaDoorDepth
namespace Go.Proofs.YthjakngpegdhmaaDoor
open Go.RowKit

def StepPost (B : Nat) (w : World) (g : Nat) (A : Option Addr) (n c : Nat) (L : List Ins) (ds : List Int) (todo : List Nat) (S : List Nat) (e : Ending) (w' : World) : Prop :=
  ∃ (ok : Bool) (ds' : List Int) (todo' : List Nat) (S' : List Nat), e = .returned (.bool ok) ∧ WkR B w' g A n c L ds' todo' S' ∧ Stp S S' w w' ∧
    (ok = true → DInv L ds' todo' none ∧ 2 * unseen ds' + todo'.length ≤ 2 * unseen ds + todo.length) ∧ (ok = false → ∀ D, ¬ Cons L D)
theorem come_len (ds : List Int) (todo : List Nat) (p : Nat) (d : Int) : (comeP ds todo p d).1.length = ds.length := by
  unfold comeP; split <;> simp
theorem ins_get {B : Nat} {w : World} {A : Option Addr} {n : Nat} {L : List Ins} (hr : Reads w B 3 A n (L.flatMap encIns)) (hln : L.length = n) {p : Nat} {i : Ins} (hi : L[p]? = some i) :
    ∃ b o, A = some ⟨b, o, none⟩ ∧ b < B ∧ w.cell? ⟨b, o + p * 3, none⟩ = some (.int .i64 i.op) ∧ w.cell? ⟨b, o + p * 3 + 1, none⟩ = some (.int .i64 i.a) ∧ w.cell? ⟨b, o + p * 3 + 2, none⟩ = some (.int .i64 i.b) := by
  obtain ⟨b, o, e, hb, hc⟩ := hr.at_ encIns_len hi hln
  exact ⟨b, o, e, hb, hc 0 _ rfl, hc 1 _ rfl, hc 2 _ rfl⟩
def jumpR (ds : List Int) (todo : List Nat) (i : Ins) (lv : Int) : List Int × List Nat × Bool := if jumpsB i.op = true then comeP ds todo i.a.toNat lv else (ds, todo, true)
def onR (ds : List Int) (todo : List Nat) (p : Nat) (i : Ins) (lv : Int) : List Int × List Nat × Bool := if onB i.op = true then comeP ds todo (p + 1) lv else (ds, todo, true)
theorem step_pure {L : List Ins} {ds : List Int} {todo : List Nat} {p : Nat} {i : Ins} {lv : Int} (h : DInv L ds todo (some p)) (hi : L[p]? = some i) (hne : atL ds p ≠ -1) (hv : jumpsB i.op = true → 0 ≤ i.a ∧ i.a ≤ L.length) (hlv : lv = leaves_ i (atL ds p)) (h0 : 0 ≤ atL ds p - (rowOf i.op).t) (h16 : lv ≤ 16) :
    ((jumpR ds todo i lv).2.2 = false → ∀ D, ¬ Cons L D) ∧
    ((jumpR ds todo i lv).2.2 = true →
      ((onR (jumpR ds todo i lv).1 (jumpR ds todo i lv).2.1 p i lv).2.2 = false → ∀ D, ¬ Cons L D) ∧
      ((onR (jumpR ds todo i lv).1 (jumpR ds todo i lv).2.1 p i lv).2.2 = true →
        DInv L (onR (jumpR ds todo i lv).1 (jumpR ds todo i lv).2.1 p i lv).1 (onR (jumpR ds todo i lv).1 (jumpR ds todo i lv).2.1 p i lv).2.1 none ∧
        2 * unseen (onR (jumpR ds todo i lv).1 (jumpR ds todo i lv).2.1 p i lv).1 + (onR (jumpR ds todo i lv).1 (jumpR ds todo i lv).2.1 p i lv).2.1.length ≤ 2 * unseen ds + todo.length)) := by
  have hp : p < L.length := (List.getElem?_eq_some_iff.1 hi).1
  have hlv0 : 0 ≤ lv := by have := lays_nonneg i.op; rw [hlv]; unfold leaves_; omega
  have hok : ∀ D, Cons L D → D p = atL ds p ∧ OkAt L D p i := fun D hc => by
    have h1 := h.least D hc p hne
    exact ⟨h1, hc.ok p i hi (by rw [h1]; exact hne)⟩
  -- the jump
  have A : ((jumpR ds todo i lv).2.2 = true → DInv L (jumpR ds todo i lv).1 (jumpR ds todo i lv).2.1 (some p) ∧ (jumpsB i.op = true → atL (jumpR ds todo i lv).1 i.a.toNat = lv)) ∧ ((jumpR ds todo i lv).2.2 = false → ∀ D, ¬ Cons L D) ∧
      (∀ q, atL ds q ≠ -1 → atL (jumpR ds todo i lv).1 q = atL ds q) ∧ 2 * unseen (jumpR ds todo i lv).1 + (jumpR ds todo i lv).2.1.length ≤ 2 * unseen ds + todo.length := by
    unfold jumpR
    by_cases hj : jumpsB i.op = true
    · rw [if_pos hj]
      obtain ⟨a0, a1⟩ := hv hj
      obtain ⟨c1, c2, c3, c4⟩ := come_inv (p := i.a.toNat) (d := lv) h (by omega) hlv0 h16 fun D hc => by
        obtain ⟨e, ok⟩ := hok D hc
        rw [ok.2.2.1 hj, e, hlv]
      exact ⟨fun ht => ⟨(c1 ht).1, fun _ => (c1 ht).2⟩, c2, c3, c4⟩
    · rw [if_neg hj]
      exact ⟨fun _ => ⟨h, fun e => absurd e hj⟩, (fun e => by cases e), fun _ _ => rfl, Nat.le_refl _⟩
  obtain ⟨A1, A2, A3, A4⟩ := A
  refine ⟨A2, fun ht => ?_⟩
  obtain ⟨hI1, hj1⟩ := A1 ht
  generalize (jumpR ds todo i lv).1 = ds1 at *
  generalize (jumpR ds todo i lv).2.1 = td1 at *
  have hp1 : atL ds1 p = atL ds p := A3 p hne
  have fin : ∀ {ds2 : List Int} {td2 : List Nat}, DInv L ds2 td2 (some p) → (∀ q, atL ds1 q ≠ -1 → atL ds2 q = atL ds1 q) → (onB i.op = true → atL ds2 (p + 1) = lv) → DInv L ds2 td2 none := by
    intro ds2 td2 hI2 hk ho
    refine hI2.finish fun i' hi' => ?_
    obtain rfl : i = i' := Option.some.inj (hi.symm.trans hi')
    have e : atL ds2 p = atL ds p := (hk p (by rw [hp1]; exact hne)).trans hp1
    refine ⟨by rw [e]; exact h0, by rw [e, ← hlv]; exact h16, fun hj => ?_, fun hon => ?_⟩
    · rw [e, ← hlv, hk _ (by rw [hj1 hj]; omega)]; exact hj1 hj
    · rw [e, ← hlv]; exact ho hon
  unfold onR
  by_cases ho : onB i.op = true
  · rw [if_pos ho]
    obtain ⟨c1, c2, c3, c4⟩ := come_inv (p := p + 1) (d := lv) hI1 (by omega) hlv0 h16 fun D hc => by
      obtain ⟨e, ok⟩ := hok D hc
      rw [ok.2.2.2 ho, e, hlv]
    exact ⟨c2, fun ht => ⟨fin (c1 ht).1 c3 fun _ => (c1 ht).2, by omega⟩⟩
  · rw [if_neg ho]
    exact ⟨(fun e => by cases e), fun _ => ⟨fin hI1 (fun _ _ => rfl) fun e => absurd e ho, A4⟩⟩
theorem Stp.trans {S S' S2 : List Nat} {a b c : World} (h : Stp S S' a b) (k : Stp S' S2 b c) : Stp S S2 a c :=
  ⟨h.1.step k.1 h.2, fun x hx => (k.2 x hx).elim (h.2 x) fun hb => .inr (Nat.le_trans h.1.size hb)⟩
set_option maxRecDepth 100000 in
set_option maxHeartbeats 4000000 in
theorem step_calls {B : Nat} {w : World} {g : Nat} {A : Option Addr} {n c : Nat} {L : List Ins} {ds : List Int} {todo : List Nat} {S : List Nat} (h : WkR B w g A n c L ds todo S) (hB : B ≤ w.heap.size) (hv : Valid L) (p : Nat) (hI : DInv L ds todo (some p)) (hp : p ≤ n) (hp1 : atL ds p ≠ -1) (hn : n ≤ 1000) (ht : todo.length ≤ 4000) :
    Calls Tryd.prog 26 #[.pointer (some ⟨g, 0, none⟩), .int .i64 p] w (StepPost B w g A n c L ds todo S) := by
  have hh := h
  obtain ⟨⟨gD, cD, vT, hg, hd, htd, hne, rfl⟩, hBg, hr, hln, hR, hRB⟩ := h
  have g0 := hg.at_ 0 (v := .slice A n c) rfl
  have g1 := hg.at_ 1 (v := .slice (some ⟨gD, 0, none⟩) ds.length cD) rfl
  have lg := hg.lt
  have lD : gD < w.heap.size := (row_lt hd rfl).1
  by_cases hpn : p = n
  · subst hpn
    have Hf := hide (And.intro hh (hI.finish fun i hi => by have := (List.getElem?_eq_some_iff.1 hi).1; omega))
    clear hh hg hd htd hne hr hR hI hp1
    go_enter Tryd.func26, Tryd.ntmps26
    go_wp2_with fail
    go_ret
    exact ⟨true, ds, todo, _, rfl, Hf.out.1, ⟨Fr.refl _ _, fun b hb => .inl hb⟩, fun _ => ⟨Hf.out.2, Nat.le_refl _⟩, fun hf => by cases hf⟩
  · obtain ⟨i, hi⟩ : ∃ i, L[p]? = some i := ⟨_, List.getElem?_eq_getElem (by omega)⟩
    obtain ⟨bA, oA, rfl, hbA, a0, a1, a2⟩ := ins_get hr hln hi
    have hlen := hI.len
    have hpl : p < ds.length := by omega
    have k0 := row_cell hd (ds_get hpl)
    have hrng := hI.rng p hp1
    have hrow := rowOf_rng i.op
    have hM := hide (fun w1 (hf : Fr [] w w1) => moves_calls (w := w1) (hR.fr0 hf) i.op)
    have hJ := hide (fun w1 (hf : Fr [] w w1) => jumps_calls (w := w1) (hR.fr0 hf) i.op)
    have hvi := hv i (List.mem_of_getElem? hi)
    have HH := hide (And.intro hh (And.intro hI (And.intro hi (And.intro hp1 (And.intro hln (And.intro hB hvi))))))
    have hleav : leaves_ i (atL ds p) = atL ds p - (rowOf i.op).t + (rowOf i.op).l := rfl
    have Hl := hide hleav
    have p0 : (0 : Int) ≤ (p : Int) := by omega
    have p1 : (p : Int) < (n : Int) := by omega
    have p2 : (p : Int) < (ds.length : Int) := by omega
    have hpne : ((p : Int) == (n : Int)) = false := by simp only [beq_eq_false_iff_ne, ne_eq]; omega
    have lbA : bA < w.heap.size := by omega
    clear hh hg hd htd hne hr hR hI hi hp1 hln hv hvi hlen hpl hleav
    generalize hdv : atL ds p = d at *
    generalize hTv : (rowOf i.op).t = T at *
    generalize hLv : (rowOf i.op).l = Ly at *
    have Hv := hide (And.intro hdv (And.intro hTv hLv))
    clear hdv hTv hLv
    obtain ⟨op, ia, ib⟩ := i
    simp only at a0 a1 a2 hM hJ
    go_enter Tryd.func26, Tryd.ntmps26
    go_wp2_with fail
    refine (hM.out _ ((Fr.refl [] w).alloc _)).mono ?_
    rintro e w2 ⟨rfl, hf⟩
    have HHo := HH.out
    have hfS : Fr [] w w2 := (((Fr.refl [] w).alloc _).trans hf)
    have hHe : w.heap.size < w2.heap.size := Nat.lt_of_lt_of_le (by simp only [World.alloc, Array.size_push]; omega) hf.size
    have hbI := (Blk.new w 50 #[.int .i64 op, .int .i64 ia, .int .i64 ib]).fr0 hf
    have HW := hide (HHo.1.fr0 HHo.2.2.2.2.2.1 hfS)
    have Hf := hide hfS
    have HB := hide (Nat.le_trans hB hfS.size)
    have c0 := hbI.at_ 0 (v := .int .i64 op) rfl
    have c1 := hbI.at_ 1 (v := .int .i64 ia) rfl
    have b1 : w2.cell? ⟨g, 1, none⟩ = some (.slice (some ⟨gD, 0, none⟩) ds.length cD) := (hfS.cell (p := ⟨g, 1, none⟩) lg (by simp)).trans g1
    have bk : w2.cell? ⟨gD, p, none⟩ = some (.int .i64 d) := (hfS.cell (p := ⟨gD, p, none⟩) lD (by simp)).trans k0
    have lg2 : g < w2.heap.size := Nat.lt_of_lt_of_le lg hfS.size
    have lD2 : gD < w2.heap.size := Nat.lt_of_lt_of_le lD hfS.size
    clear hf hfS hbI HHo g0 g1 k0 a0 a1 a2
    generalize w.heap.size = hw at *
    by_cases hbad : d - T < 0 ∨ 16 < d - T + Ly
    · have HE : Hid (StepPost B w g (some ⟨bA, oA, none⟩) n c L ds todo (g :: gD :: vT.ownBlock.toList) (.returned (.bool false)) w2) := hide ⟨false, ds, todo, _, rfl, HW.out, ⟨Hf.out.any _, fun b hb => .inl hb⟩, (fun e => by cases e), fun _ => HH.out.2.1.bad HH.out.2.2.1 (by rw [Hv.out.1]; exact HH.out.2.2.2.1) (by simp only [Hv.out.1, Hv.out.2.1, Hl.out]; exact hbad)⟩
      by_cases hn0 : d - T < 0
      · clear hbad
        go_wp2_with fail
        go_ret
        exact HE.out
      · have h16 : 16 < d - T + Ly := by omega
        clear hbad
        go_wp2_with fail
        go_ret
        exact HE.out
    · have h0 : 0 ≤ d - T := by omega
      have h16 : d - T + Ly ≤ 16 := by omega
      have h0' : ¬ d - T < 0 := by omega
      have h16' : ¬ 16 < d - T + Ly := by omega
      clear hbad
      go_wp2_with fail
      refine (hJ.out _ Hf.out).mono ?_
      rintro e w3 ⟨rfl, hf3⟩
      have d0 : w3.cell? ⟨hw, 0, none⟩ = some (.int .i64 op) := (hf3.cell (p := ⟨hw, 0, none⟩) hHe (by simp)).trans c0
      have d1 : w3.cell? ⟨hw, 1, none⟩ = some (.int .i64 ia) := (hf3.cell (p := ⟨hw, 1, none⟩) hHe (by simp)).trans c1
      have hHe3 : hw < w3.heap.size := Nat.lt_of_lt_of_le hHe hf3.size
      have HW3 := hide (HW.out.fr0 HB.out hf3)
      have HB3 := hide (Nat.le_trans HB.out hf3.size)
      have Hf3 := hide (Hf.out.trans hf3)
      clear hf3 c0 c1 b1 bk lg2 lD2 hHe hJ hM HW Hf
      have HP := hide (step_pure (lv := d - T + Ly) HH.out.2.1 HH.out.2.2.1 (by rw [Hv.out.1]; exact HH.out.2.2.2.1) HH.out.2.2.2.2.2.2.2 (by rw [Hv.out.1, Hl.out]) (by simp only [Hv.out.1, Hv.out.2.1]; exact h0) h16)
      have Hj := hide HH.out.2.2.2.2.2.2.2
      by_cases hj : jumpsB op = true
      · obtain ⟨k, rfl⟩ := Int.eq_ofNat_of_zero_le (Hj.out hj).1
        have Hk := hide (Hj.out hj).2
        have HC := hide (come_calls HW3.out HB3.out k (by have := HH.out.2.1.len; have := Hk.out; omega) (by have := HH.out.2.1.len; have := HH.out.2.2.2.2.1; omega) (by omega) (d - T + Ly))
        have e1 : jumpR ds todo ⟨op, (k : Int), ib⟩ (d - T + Ly) = comeP ds todo k (d - T + Ly) := if_pos hj
        have hl1 : (comeP ds todo k (d - T + Ly)).1.length = n + 1 := by rw [come_len, HH.out.2.1.len, HH.out.2.2.2.2.1]
        have ht1 : (comeP ds todo k (d - T + Ly)).2.1.length ≤ todo.length + 1 := by unfold comeP; split <;> simp
        rw [e1] at HP
        rcases hr1 : comeP ds todo k (d - T + Ly) with ⟨ds1, td1, ok1⟩
        rw [hr1] at HP HC hl1 ht1
        simp only at HP hl1 ht1
        simp only [hj]
        have HL1 := hide hl1
        clear hr1 e1 hl1
        go_wp2_with fail
        refine HC.out.mono ?_
        rintro e w5 ⟨rfl, S1, hW5, hS5⟩
        have HS5 := hide (Stp.trans (S := g :: gD :: vT.ownBlock.toList) (S' := g :: gD :: vT.ownBlock.toList) ⟨Hf3.out.any _, fun b hb => .inl hb⟩ hS5 : Stp _ S1 w w5)
        have HB5 := hide (Nat.le_trans HB3.out hS5.fr.size)
        have HW5 : Hid (WkR B w5 g (some ⟨bA, oA, none⟩) n c L ds1 td1 S1) := hide hW5
        clear hW5 hS5
        cases ok1
        · have HE : Hid (StepPost B w g (some ⟨bA, oA, none⟩) n c L ds todo (g :: gD :: vT.ownBlock.toList) (.returned (.bool false)) w5) := hide ⟨false, ds1, td1, S1, rfl, HW5.out, HS5.out, (fun e => by cases e), fun _ => HP.out.1 rfl⟩
          go_wp2_with fail
          go_ret
          exact HE.out
        · have HP2 := HP.out.2 rfl
          clear HP hj
          by_cases ho : onB op = true
          · have e2 : onR ds1 td1 p ⟨op, (k : Int), ib⟩ (d - T + Ly) = comeP ds1 td1 (p + 1) (d - T + Ly) := if_pos ho
            rw [e2] at HP2
            have HC := hide (come_calls HW5.out HB5.out (p + 1) (by rw [HL1.out]; omega) (by rw [HL1.out]; omega) (by omega) (d - T + Ly))
            rcases hr2 : comeP ds1 td1 (p + 1) (d - T + Ly) with ⟨ds2, td2, ok2⟩
            rw [hr2] at HC HP2
            have HP3 := hide HP2
            simp only [ho]
            clear HP2 e2 ho hr2
            go_wp2_with fail
            rw [show ((p : Int) + 1) = ((p + 1 : Nat) : Int) from by omega]
            refine HC.out.mono ?_
            rintro e w6 ⟨rfl, S2, hW6, hS6⟩
            have HE : Hid (StepPost B w g (some ⟨bA, oA, none⟩) n c L ds todo (g :: gD :: vT.ownBlock.toList) (.returned (.bool ok2)) w6) := hide ⟨ok2, ds2, td2, S2, rfl, hW6, Stp.trans HS5.out hS6, HP3.out.2, HP3.out.1⟩
            clear hW6 hS6
            go_wp2_with fail
            go_ret
            exact HE.out
          · have e2 : onR ds1 td1 p ⟨op, (k : Int), ib⟩ (d - T + Ly) = (ds1, td1, true) := if_neg ho
            rw [e2] at HP2
            have HP3 := hide HP2
            have HE : Hid (StepPost B w g (some ⟨bA, oA, none⟩) n c L ds todo (g :: gD :: vT.ownBlock.toList) (.returned (.bool true)) w5) := hide ⟨true, ds1, td1, S1, rfl, HW5.out, HS5.out, HP3.out.2, HP3.out.1⟩
            rw [Bool.not_eq_true] at ho
            simp only [ho]
            clear HP2 e2 ho
            go_wp2_with fail
            go_ret
            exact HE.out
      · have e1 : jumpR ds todo ⟨op, ia, ib⟩ (d - T + Ly) = (ds, todo, true) := if_neg hj
        rw [e1] at HP
        have HP2 := HP.out.2 rfl
        have hl1 : ds.length = n + 1 := by rw [HH.out.2.1.len, HH.out.2.2.2.2.1]
        have HL1 := hide hl1
        rw [Bool.not_eq_true] at hj
        simp only [hj]
        have HW5 := HW3
        have HB5 := HB3
        have HS5 : Hid (Stp (g :: gD :: vT.ownBlock.toList) (g :: gD :: vT.ownBlock.toList) w w3) := hide ⟨Hf3.out.any _, fun b hb => .inl hb⟩
        clear HP hj e1 hl1 HW3 HB3
        by_cases ho : onB op = true
        · have e2 : onR ds todo p ⟨op, ia, ib⟩ (d - T + Ly) = comeP ds todo (p + 1) (d - T + Ly) := if_pos ho
          rw [e2] at HP2
          have HC := hide (come_calls HW5.out HB5.out (p + 1) (by rw [HL1.out]; omega) (by rw [HL1.out]; omega) (by omega) (d - T + Ly))
          rcases hr2 : comeP ds todo (p + 1) (d - T + Ly) with ⟨ds2, td2, ok2⟩
          rw [hr2] at HC HP2
          have HP3 := hide HP2
          simp only [ho]
          clear HP2 e2 ho hr2
          go_wp2_with fail
          rw [show ((p : Int) + 1) = ((p + 1 : Nat) : Int) from by omega]
          refine HC.out.mono ?_
          rintro e w6 ⟨rfl, S2, hW6, hS6⟩
          have HE : Hid (StepPost B w g (some ⟨bA, oA, none⟩) n c L ds todo (g :: gD :: vT.ownBlock.toList) (.returned (.bool ok2)) w6) := hide ⟨ok2, ds2, td2, S2, rfl, hW6, Stp.trans HS5.out hS6, HP3.out.2, HP3.out.1⟩
          clear hW6 hS6
          go_wp2_with fail
          go_ret
          exact HE.out
        · have e2 : onR ds todo p ⟨op, ia, ib⟩ (d - T + Ly) = (ds, todo, true) := if_neg ho
          rw [e2] at HP2
          have HP3 := hide HP2
          have HE : Hid (StepPost B w g (some ⟨bA, oA, none⟩) n c L ds todo (g :: gD :: vT.ownBlock.toList) (.returned (.bool true)) w3) := hide ⟨true, ds, todo, _, rfl, HW5.out, HS5.out, HP3.out.2, HP3.out.1⟩
          rw [Bool.not_eq_true] at ho
          simp only [ho]
          clear HP2 e2 ho
          go_wp2_with fail
          go_ret
          exact HE.out
end Go.Proofs.YthjakngpegdhmaaDoor

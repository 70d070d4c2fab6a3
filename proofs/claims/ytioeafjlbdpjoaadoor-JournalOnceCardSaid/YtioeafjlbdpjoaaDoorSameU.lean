/- Same and Alike of entries that say the same. -/
import Derived.Test.YtioeafjlbdpjoaaDoorSinceJ
namespace Go.Proofs.YtioeafjlbdpjoaaDoor
open Go.RowKit
theorem PsOk.part {good : Nat → Prop} {w : World} {d : Ud} (h : PsOk good w d) {i : Nat} {p : Pt} (hp : d.u.ps[i]? = some p) : ∃ b off, d.A = some ⟨b, off, none⟩ ∧ b < w.heap.size ∧ ∀ j v, (encB p)[j]? = some v → w.cell? ⟨b, off + (i * 6 + j), none⟩ = some v := by
  obtain ⟨b, off, hA, hb, _, hc⟩ := h.at_ (fun e => by rw [e] at hp; simp at hp)
  refine ⟨b, off, hA, hb, fun j v hv => hc _ v ?_⟩
  have hj : j < 6 := by rw [← encB_len p]; exact (List.getElem?_eq_some_iff.1 hv).1
  rw [flat_get encB_len hp j hj, hv]
set_option maxRecDepth 100000 in
set_option maxHeartbeats 2000000 in
theorem equal_calls {w : World} {g1 g2 : Nat → Prop} {d1 d2 : Ud} (h1 : PsOk g1 w d1) (h2 : PsOk g2 w d2) (he : d2.u.ps = d1.u.ps) :
    Calls Tryd.prog 40 #[.slice d1.A d1.u.ps.length d1.c, .slice d2.A d1.u.ps.length d2.c] w fun e w' => e = .returned (.bool true) ∧ Fr [] w w' := by
  have HH := hide (And.intro h1 (And.intro h2 he))
  obtain ⟨ps, hps⟩ : ∃ ps, ps = d1.u.ps := ⟨_, rfl⟩
  have hle := h1.le
  rw [← hps] at HH hle ⊢
  have Hps := hide hps
  clear h1 h2 he hps
  go_enter Tryd.func40, Tryd.ntmps40
  go_wp2_with fail
  go_loopw [5, 13] (fun _ s13 wr => ∃ i : Nat, i ≤ ps.length ∧ s13 = .int .i64 i ∧ Fr [] w wr) (fun _ s13 _ => ps.length - (intOf s13).toNat)
  case atStart => exact ⟨0, by omega, rfl, Fr.refl _ _⟩
  case round =>
    obtain ⟨i, hi, rfl, hf⟩ := hrel
    have j0 : (0 : Int) ≤ (i : Int) := by omega
    have Hf := hide hf
    by_cases hin : i < ps.length
    · have j1 : (i : Int) < (ps.length : Int) := by omega
      obtain ⟨p, hp⟩ : ∃ p, ps[i]? = some p := ⟨_, List.getElem?_eq_getElem hin⟩
      obtain ⟨b1, o1, hA1, hb1, hc1⟩ := (HH.out.1.fr0 hf).part (i := i) (p := p) (by rw [← Hps.out]; exact hp)
      obtain ⟨b2, o2, hA2, hb2, hc2⟩ := (HH.out.2.1.fr0 hf).part (i := i) (p := p) (by rw [HH.out.2.2]; exact hp)
      rw [hA1, hA2]
      have hn' : ∀ W : World, (binOp .neq 34 (encP p) (encP p)).run Tryd.prog W = .ok (.bool false) W := fun W => by rw [(eql_part p p W).2]; simp
      simp only [encP, boxP] at hn'
      have x0 := hc1 0 _ rfl
      have x1 := hc1 1 _ rfl
      have x2 := hc1 2 _ rfl
      have x3 := hc1 3 _ rfl
      have x4 := hc1 4 _ rfl
      have x5 := hc1 5 _ rfl
      have y0 := hc2 0 _ rfl
      have y1 := hc2 1 _ rfl
      have y2 := hc2 2 _ rfl
      have y3 := hc2 3 _ rfl
      have y4 := hc2 4 _ rfl
      have y5 := hc2 5 _ rfl
      rw [Nat.add_zero] at x0 y0
      rw [← Nat.add_assoc] at x1 x2 x3 x4 x5 y1 y2 y3 y4 y5
      clear hc1 hc2 hp hA1 hA2 hf
      go_wp2_with fail
      go_quiet (fail)
      go_wp2_with fail
      go_roundw
      case rel => exact ⟨i + 1, by omega, by go_num, Hf.out.drewN _⟩
      case measure => simp [intOf]; omega
    · obtain rfl : i = ps.length := by omega
      clear hf
      go_wp2_with fail
      go_ret
      exact ⟨rfl, Hf.out⟩
set_option maxRecDepth 100000 in
set_option maxHeartbeats 2000000 in
theorem same9_calls {w : World} {g1 g2 : Nat → Prop} {d1 d2 : Ud} (h1 : PsOk g1 w d1) (h2 : PsOk g2 w d2) (he : d2.u.ps = d1.u.ps) :
    Calls Tryd.prog 51 #[.slice d1.A d1.u.ps.length d1.c, .slice d2.A d1.u.ps.length d2.c] w fun e w' => e = .returned (.bool true) ∧ Fr [] w w' := by
  have HH := hide (And.intro h1 (And.intro h2 he))
  obtain ⟨ps, hps⟩ : ∃ ps, ps = d1.u.ps := ⟨_, rfl⟩
  have hle := h1.le
  rw [← hps] at HH hle ⊢
  have Hps := hide hps
  clear h1 h2 he hps
  go_enter Tryd.func51, Tryd.ntmps51
  go_wp2_with fail
  go_loopw [5] (fun s5 wr => ∃ i : Nat, i ≤ ps.length ∧ s5 = .int .i64 i ∧ Fr [] w wr) (fun s5 _ => ps.length - (intOf s5).toNat)
  case atStart => exact ⟨0, by omega, rfl, Fr.refl _ _⟩
  case round =>
    obtain ⟨i, hi, rfl, hf⟩ := hrel
    have j0 : (0 : Int) ≤ (i : Int) := by omega
    have Hf := hide hf
    by_cases hin : i < ps.length
    · have j1 : (i : Int) < (ps.length : Int) := by omega
      obtain ⟨p, hp⟩ : ∃ p, ps[i]? = some p := ⟨_, List.getElem?_eq_getElem hin⟩
      obtain ⟨b1, o1, hA1, hb1, hc1⟩ := (HH.out.1.fr0 hf).part (i := i) (p := p) (by rw [← Hps.out]; exact hp)
      obtain ⟨b2, o2, hA2, hb2, hc2⟩ := (HH.out.2.1.fr0 hf).part (i := i) (p := p) (by rw [HH.out.2.2]; exact hp)
      rw [hA1, hA2]
      have hn' : ∀ W : World, (binOp .neq 34 (encP p) (encP p)).run Tryd.prog W = .ok (.bool false) W := fun W => by rw [(eql_part p p W).2]; simp
      simp only [encP, boxP] at hn'
      have x0 := hc1 0 _ rfl
      have x1 := hc1 1 _ rfl
      have x2 := hc1 2 _ rfl
      have x3 := hc1 3 _ rfl
      have x4 := hc1 4 _ rfl
      have x5 := hc1 5 _ rfl
      have y0 := hc2 0 _ rfl
      have y1 := hc2 1 _ rfl
      have y2 := hc2 2 _ rfl
      have y3 := hc2 3 _ rfl
      have y4 := hc2 4 _ rfl
      have y5 := hc2 5 _ rfl
      rw [Nat.add_zero] at x0 y0
      rw [← Nat.add_assoc] at x1 x2 x3 x4 x5 y1 y2 y3 y4 y5
      clear hc1 hc2 hp hA1 hA2 hf
      go_wp2_with fail
      go_quiet (fail)
      go_wp2_with fail
      go_roundw
      case rel => exact ⟨i + 1, by omega, by go_num, Hf.out.drewN _⟩
      case measure => simp [intOf]; omega
    · obtain rfl : i = ps.length := by omega
      clear hf
      go_wp2_with fail
      go_ret
      exact ⟨rfl, Hf.out⟩
set_option maxRecDepth 100000 in
set_option maxHeartbeats 2000000 in
theorem same_u {w : World} {g1 g2 : Nat → Prop} {d1 d2 : Ud} (h1 : PsOk g1 w d1) (h2 : PsOk g2 w d2) (he : d2.u = d1.u) :
    Calls Tryd.prog 18 #[d1.val, d2.val] w fun e w' => e = .returned (.bool true) ∧ Fr [] w w' := by
  obtain ⟨u2, A2, c2⟩ := d2
  obtain rfl : u2 = d1.u := he
  obtain ⟨u, A1, c1⟩ := d1
  have HE := hide (fun W (hf : Fr [] w W) => equal_calls (h1.fr0 hf) (h2.fr0 hf) rfl)
  dsimp only at HE
  have hq : ∀ W : World, (binOp .eql 34 (encP u.p) (encP u.p)).run Tryd.prog W = .ok (.bool true) W := fun W => by rw [(eql_part u.p u.p W).1]; simp
  simp only [encP, boxP] at hq
  unfold Ud.val
  dsimp only
  clear h1 h2
  go_enter Tryd.func18, Tryd.ntmps18
  go_wp2_with fail
  refine (HE.out _ (((Fr.refl _ _).alloc _).alloc _)).mono ?_
  rintro e w1 ⟨rfl, hf1⟩
  have H1 := hide (((((Fr.refl [] w).alloc _).alloc _)).trans hf1)
  clear hf1
  go_wp2_with fail
  go_ret
  exact ⟨rfl, H1.out⟩
set_option maxRecDepth 100000 in
set_option maxHeartbeats 2000000 in
theorem rsame_u {w : World} {g1 g2 : Nat → Prop} {d1 d2 : Ud} (h1 : PsOk g1 w d1) (h2 : PsOk g2 w d2) (he : d2.u = d1.u) :
    Calls Tryd.prog 37 #[d1.val, d2.val] w fun e w' => e = .returned (.bool true) ∧ Fr [] w w' := by
  obtain ⟨u2, A2, c2⟩ := d2
  obtain rfl : u2 = d1.u := he
  obtain ⟨u, A1, c1⟩ := d1
  have HE := hide (fun W (hf : Fr [] w W) => same9_calls (h1.fr0 hf) (h2.fr0 hf) rfl)
  dsimp only at HE
  have hq : ∀ W : World, (binOp .eql 34 (encP u.p) (encP u.p)).run Tryd.prog W = .ok (.bool true) W := fun W => by rw [(eql_part u.p u.p W).1]; simp
  simp only [encP, boxP] at hq
  unfold Ud.val
  dsimp only
  clear h1 h2
  go_enter Tryd.func37, Tryd.ntmps37
  go_wp2_with fail
  refine (HE.out _ (((Fr.refl _ _).alloc _).alloc _)).mono ?_
  rintro e w1 ⟨rfl, hf1⟩
  have H1 := hide (((((Fr.refl [] w).alloc _).alloc _)).trans hf1)
  clear hf1
  go_wp2_with fail
  go_ret
  exact ⟨rfl, H1.out⟩
/-- a list of entries that can be read -/
def LR (w : World) (A : Option Addr) (ds : List Ud) : Prop := Reads w w.heap.size 11 A ds.length (ds.flatMap Ud.cells) ∧ ∀ d ∈ ds, ∃ good, PsOk good w d
theorem LR.fr0 {w w' : World} {A : Option Addr} {ds : List Ud} (h : LR w A ds) (hf : Fr [] w w') : LR w' A ds :=
  ⟨⟨h.1.1, fun hn => by
    obtain ⟨b, off, e, hb', hc⟩ := h.1.2 hn
    exact ⟨b, off, e, Nat.lt_of_lt_of_le hb' hf.size, fun j u hu => (hf.cell (p := ⟨b, off + j, none⟩) hb' (by simp)).trans (hc j u hu)⟩⟩, fun d hd => by
    obtain ⟨gd, h⟩ := h.2 d hd
    exact ⟨gd, h.fr0 hf⟩⟩
theorem OutV.lr {B : Nat} {w : World} {v : Value} {us : List Un} (h : OutV B w v us) : ∃ A c ds, v = .slice A us.length c ∧ ds.map (·.u) = us ∧ LR w A ds := by
  obtain ⟨ds, h1, h2, h3⟩ := h
  obtain ⟨A, c, rfl, hr⟩ := row_reads h1
  have hl : ds.length = us.length := by rw [← h2, List.length_map]
  exact ⟨A, c, ds, rfl, h2, by rw [hl]; exact hr, fun d hd => ⟨_, h3 d hd⟩⟩
set_option maxRecDepth 100000 in
set_option maxHeartbeats 4000000 in
theorem alike_calls {w : World} {A1 A2 : Option Addr} {c1 c2 : Nat} {ds1 ds2 : List Ud} (h1 : LR w A1 ds1) (h2 : LR w A2 ds2) (he : ds1.map (·.u) = ds2.map (·.u)) (hn : ds1.length ≤ 1000000) :
    Calls Tryd.prog 13 #[.slice A1 ds1.length c1, .slice A2 ds1.length c2] w fun e w' => e = .returned (.bool true) ∧ Fr [] w w' := by
  have hl : ds2.length = ds1.length := by have := congrArg List.length he; simpa using this.symm
  have HH := hide (And.intro h1 (And.intro h2 (And.intro he hl)))
  clear h1 h2 he hl
  go_enter Tryd.func13, Tryd.ntmps13
  go_wp2_with fail
  go_loopw [5] (fun s5 wr => ∃ i : Nat, i ≤ ds1.length ∧ s5 = .int .i64 i ∧ Fr [] w wr) (fun s5 _ => ds1.length - (intOf s5).toNat)
  case atStart => exact ⟨0, by omega, rfl, Fr.refl _ _⟩
  case round =>
    obtain ⟨i, hi, rfl, hf⟩ := hrel
    have j0 : (0 : Int) ≤ (i : Int) := by omega
    have Hf := hide hf
    by_cases hin : i < ds1.length
    · have j1 : (i : Int) < (ds1.length : Int) := by omega
      obtain ⟨d1, hd1⟩ : ∃ d, ds1[i]? = some d := ⟨_, List.getElem?_eq_getElem hin⟩
      obtain ⟨d2, hd2⟩ : ∃ d, ds2[i]? = some d := ⟨_, List.getElem?_eq_getElem (by rw [HH.out.2.2.2]; exact hin)⟩
      have hu : d2.u = d1.u := by
        have := congrArg (fun l => l[i]?) HH.out.2.2.1
        simp only [List.getElem?_map, hd1, hd2, Option.map_some] at this
        exact (Option.some.inj this).symm
      obtain ⟨b1, o1, hA1, hb1, hc1⟩ := (HH.out.1.fr0 hf).1.at_ Ud.cells_len hd1 rfl
      obtain ⟨b2, o2, hA2, hb2, hc2⟩ := (HH.out.2.1.fr0 hf).1.at_ Ud.cells_len hd2 rfl
      rw [hA1, hA2]
      obtain ⟨gd1, hp1⟩ := HH.out.1.2 d1 (List.mem_of_getElem? hd1)
      obtain ⟨gd2, hp2⟩ := HH.out.2.1.2 d2 (List.mem_of_getElem? hd2)
      have HS := hide (fun W (hf' : Fr [] wr W) => rsame_u (hp1.fr0 (hf.trans hf')) (hp2.fr0 (hf.trans hf')) hu)
      unfold Ud.val at HS
      have x0 := hc1 0 _ rfl
      have y0 := hc2 0 _ rfl
      have x1 := hc1 1 _ rfl
      have y1 := hc2 1 _ rfl
      have x2 := hc1 2 _ rfl
      have y2 := hc2 2 _ rfl
      have x3 := hc1 3 _ rfl
      have y3 := hc2 3 _ rfl
      have x4 := hc1 4 _ rfl
      have y4 := hc2 4 _ rfl
      have x5 := hc1 5 _ rfl
      have y5 := hc2 5 _ rfl
      have x6 := hc1 6 _ rfl
      have y6 := hc2 6 _ rfl
      have x7 := hc1 7 _ rfl
      have y7 := hc2 7 _ rfl
      have x8 := hc1 8 _ rfl
      have y8 := hc2 8 _ rfl
      have x9 := hc1 9 _ rfl
      have y9 := hc2 9 _ rfl
      have x10 := hc1 10 _ rfl
      have y10 := hc2 10 _ rfl
      rw [Nat.add_zero] at x0 y0
      rw [← Nat.add_assoc] at x1 y1 x2 y2 x3 y3 x4 y4 x5 y5 x6 y6 x7 y7 x8 y8 x9 y9 x10 y10
      clear hc1 hc2 hd1 hd2 hA1 hA2 hf hp1 hp2 hu
      go_wp2_with fail
      go_still_tail 8, (by kernel_rfl)
      change wpList _ _ _ _ _ wr.drew
      go_wp2_with fail
      refine (HS.out _ ((Fr.refl _ _).drew)).mono ?_
      rintro e w1 ⟨rfl, hf1⟩
      have H1 := hide (Hf.out.trans (((Fr.refl [] wr).drew).trans hf1))
      clear hf1
      go_wp2_with fail
      go_roundw
      case rel => exact ⟨i + 1, by omega, by go_num, H1.out⟩
      case measure => simp [intOf]; omega
    · obtain rfl : i = ds1.length := by omega
      clear hf
      go_wp2_with fail
      go_ret
      exact ⟨rfl, Hf.out⟩
end Go.Proofs.YtioeafjlbdpjoaaDoor

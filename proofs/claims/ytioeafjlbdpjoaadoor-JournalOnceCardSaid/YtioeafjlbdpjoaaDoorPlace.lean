/- Journal: place. -/
import Derived.Test.YtioeafjlbdpjoaaDoorMark2
namespace Go.Proofs.YtioeafjlbdpjoaaDoor
open Go.RowKit
set_option maxRecDepth 100000 in
theorem idxs_nil (p : Nat) (w : World) : Calls Tryd.prog 47 #[.slice none 0 0, .func (.func 48) #[] #[ptr p]] w fun e w' => e = .returned (.int .i64 (-1)) ∧ w = w' := by
  go_enter Tryd.func47, Tryd.ntmps47
  go_wp2_with fail
  go_loopw [8] (fun s8 wr => s8 = .int .i64 0 ∧ w = wr) (fun _ _ => 0)
  case atStart => exact ⟨rfl, rfl⟩
  case round =>
    obtain ⟨rfl, rfl⟩ := hrel
    go_wp2_with fail
    go_ret
    exact ⟨rfl, rfl⟩
theorem idxs_any {B : Nat} {w : World} {sl : Value} {rs : List Sr} {Q : List Nat} (h3 : RowO w B 68 sl rs.length (rs.map fun x => ptr x.1)) (h4 : ∀ x ∈ rs, StR B (· ∈ Q) w x.1 x.2.1 x.2.2) (hn : rs.length ≤ 100000) {p : Nat} {f : Int} (hp : Blk w p 3 #[.int .i64 f]) :
    Calls Tryd.prog 47 #[sl, .func (.func 48) #[] #[ptr p]] w fun e w' => e = .returned (.int .i64 (idxOf (placeOf ((rs.map (·.2.1)).map (·.fr)) f))) ∧ Fr [] w w' := by
  rcases h3.form with ⟨rfl, h0, hx⟩ | ⟨g, o, c, rfl, _, _, _, _⟩
  · have hr0 : rs = [] := List.eq_nil_of_length_eq_zero h0
    subst hr0
    exact (idxs_nil p w).mono fun e w' h => ⟨h.1, by rw [h.2]; exact Fr.refl _ _⟩
  · have := idxs_calls (c := c) (cs := rs.map fun x => (x.1, x.2.1.fr)) (f := f) (p := p) (by rw [List.map_map]; exact h3) hn (fun W x hx hf => by
      obtain ⟨y, hy, rfl⟩ := List.mem_map.1 hx
      obtain ⟨uv, mv, hb⟩ := (h4 y hy).frame
      exact place1_calls (hp.fr0 hf) (hb.fr0 hf))
    rw [List.map_map] at this ⊢
    exact this
/-- what place gives -/
def PlacePost (w : World) (ad : Nat → Addr) (o : Option Nat) (e : Ending) (w' : World) : Prop := match o with
  | some i => e = .returned (.tuple #[.int .i64 (i : Int), .nilIface]) ∧ Fr [] w w'
  | none => ∃ v, e = .returned (.tuple #[.int .i64 0, v]) ∧ NewErr w w' ad v 16 ∧ Fr [] w w'
set_option maxRecDepth 100000 in
set_option maxHeartbeats 2000000 in
theorem place_nil {K : List Nat} {B : Nat} {w : World} {ad : Nat → Addr} (hK : KJ K) (hs : Sents K B w ad) (f : Int) : Calls Tryd.prog 34 #[.pointer none, .int .i64 f] w fun e w' => ∃ v, e = .returned (.tuple #[.int .i64 0, v]) ∧ NewErr w w' ad v 2 ∧ Fr [] w w' := by
  have c1 := hs.cell 2 hK.h2
  have l1 := Nat.lt_of_lt_of_le (hs.glob 2 hK.h2) hs.le
  have HW := hide (fun W => wrong_calls (w := W) (ad := ad) 2)
  simp only [gOf] at c1 l1
  clear hs hK
  go_enter Tryd.func34, Tryd.ntmps34
  go_wp2_with fail
  refine (HW.out _).mono ?_
  rintro e w' ⟨v, rfl, hn, hf⟩
  have H2 := hide (And.intro hn hf)
  obtain ⟨t, a, rfl⟩ := hn.form
  clear hn hf
  go_wp2_with fail
  go_ret2
  exact ⟨_, rfl, H2.out.1.elder (by simp), ((Fr.refl _ _).alloc _).trans H2.out.2⟩
set_option maxRecDepth 100000 in
set_option maxHeartbeats 2000000 in
theorem place_calls {K : List Nat} {B0 B : Nat} {w : World} {ad : Nat → Addr} (hK : KJ K) (hs : Sents K B0 w ad) {g : Nat} {sts : List St} {most size : Int} {S : List Nat} (h : JR B w g sts most size S) (hn : sts.length ≤ 100000) (f : Int) :
    Calls Tryd.prog 34 #[ptr g, .int .i64 f] w (PlacePost w ad (placeOf (sts.map (·.fr)) f)) := by
  obtain ⟨sl, rs, Q, rfl, h2, h3, h4, h5, h6, h7, rfl⟩ := h
  rw [List.length_map] at hn
  have c1 := hs.cell 16 hK.h16
  have l1 := Nat.lt_of_lt_of_le (hs.glob 16 hK.h16) hs.le
  have HW := hide (fun W => wrong_calls (w := W) (ad := ad) 16)
  simp only [gOf] at c1 l1
  have c0 := h2.at_ 0 (v := sl) rfl
  have lg := h2.lt
  have hwa : Fr [] w (w.alloc (.cells #[.int .i64 f] 3)) := (Fr.refl _ _).alloc _
  have HI := hide (idxs_any (h3.fr0 hwa) (fun x hx => (h4 x hx).fr' hwa (by simp) (by simp)) hn (Blk.new w 3 #[.int .i64 f]))
  have HWA := hide hwa
  clear hs hK h2 h3 h4 h5 h6 h7 hwa
  go_enter Tryd.func34, Tryd.ntmps34
  go_wp2_with fail
  refine HI.out.mono ?_
  rintro e w1 ⟨rfl, hf1⟩
  have H1 := hide (HWA.out.trans hf1)
  have d1 := (H1.out.cell l1 (by simp)).trans c1
  have k1 := Nat.lt_of_lt_of_le l1 H1.out.size
  clear hf1 HI
  cases hp : placeOf ((rs.map (·.2.1)).map (·.fr)) f with
  | some i =>
    have hp' := hide hp
    clear hp
    simp only [idxOf]
    have i0 : decide (((i : Nat) : Int) < 0) = false := decide_eq_false (by omega)
    go_wp2_with fail
    go_ret2
    show PlacePost w ad _ _ _
    rw [hp'.out]
    exact ⟨rfl, H1.out⟩
  | none =>
    have hp' := hide hp
    clear hp
    simp only [idxOf]
    go_wp2_with fail
    refine (HW.out _).mono ?_
    rintro e w' ⟨v, rfl, hn, hf⟩
    have H2 := hide (And.intro hn hf)
    obtain ⟨t, a, rfl⟩ := hn.form
    clear hn hf
    go_wp2_with fail
    go_ret2
    show PlacePost w ad _ _ _
    rw [hp'.out]
    exact ⟨_, rfl, H2.out.1.elder H1.out.size, H1.out.trans H2.out.2⟩
end Go.Proofs.YtioeafjlbdpjoaaDoor

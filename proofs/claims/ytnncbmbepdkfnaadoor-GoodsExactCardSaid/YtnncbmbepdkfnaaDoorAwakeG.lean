/- awake of the statements of layer 12; Put of a wrong length. -/
import Derived.Test.YtnncbmbepdkfnaaDoorGoods3
namespace Go.Proofs.YtnncbmbepdkfnaaDoor
open Go.RowKit
theorem Sents.rebase {K : List Nat} {B : Nat} {w : World} {ad : Nat → Addr} (h : Sents K B w ad) : Sents K w.heap.size w ad :=
  ⟨Nat.le_refl _, fun k m => Nat.lt_of_lt_of_le (h.glob k m) h.le, h.cell, fun k m => Nat.lt_of_lt_of_le (h.lt k m) h.le, h.blk, h.inj⟩
theorem eql_nil_nil (W : World) : (binOp .eql 26 .nilIface .nilIface).run Tryd.prog W = .ok (.bool true) W := by kernel_rfl
theorem is_hc {K : List Nat} {B : Nat} {w : World} {ad : Nat → Addr} (hs : Sents K B w ad) {j : Nat} (hj : j ∈ K) {v : Value} {c : Ch} (h : HC w ad v c) (hc : c.2 ∈ K) :
    Calls Tryd.prog 17 #[v, sv (ad j)] w fun e w' => e = .returned (.bool (decide (c.2 = j))) ∧ Fr [] w w' := by
  obtain ⟨h1, h2, T, hT⟩ := h
  refine (is_chain hs hj hc hT.chain).mono ?_
  rintro e w' ⟨rfl, rfl⟩
  exact ⟨rfl, Fr.refl _ _⟩
section
variable {B : Nat} {w : World} {g : Nat} {ns : List ByteArray} {vs : List Int} {ch : Int} {S : List Nat}
theorem GR.step (h : GR B w g ns vs ch S) {w0 w' : World} (hf : Fr [] w0 w) (hB : w0.heap.size ≤ B) (hk : Fr S w w') : Fr [] w0 w' := hf.step hk fun x hx => .inr (Nat.le_trans hB (h.ge x hx).1)
set_option maxRecDepth 100000 in
theorem put_bad {B0 : Nat} {ad : Nat → Addr} {K : List Nat} (m1 : 1 ∈ K) (hs : Sents K B0 w ad) (h : GR B w g ns vs ch S) (hl : vs.length ≤ 1000) {A : Option Addr} {n c : Nat} (hn : n ≠ vs.length) (hn2 : n ≤ 1000000) :
    Calls Tryd.prog 15 #[gp g, .slice A n c] w fun e w' => ∃ x, e = .returned x ∧ HC w' ad x ([sGoods], 1) ∧ Fr [] w w' := by
  have HW := hide (wrongK_calls (w := w) (ad := ad) (k := 1) (by omega) (by omega))
  have g1 := hs.cell 1 m1
  have lg1 := Nat.lt_of_lt_of_le (hs.glob 1 m1) hs.le
  have e1 : gOf 1 = 2 := rfl
  rw [e1] at g1 lg1
  obtain ⟨m, A', c', c0, c1, c2, lg, -, -⟩ := h.cells
  have hne : ((n : Int) != (vs.length : Int)) = true := by simp; omega
  have hne2 : ¬ ((n : Int) = (vs.length : Int)) := by omega
  clear h hs e1
  generalize vs.length = k at *
  go_enter Tryd.func15, Tryd.ntmps15
  go_wp2_with fail
  refine HW.out.mono ?_
  rintro e w2 ⟨x, rfl, hx, hf⟩
  have H2 := hide (And.intro hx hf)
  clear hx hf
  go_wp2_with fail
  go_ret
  exact ⟨_, rfl, H2.out.1, H2.out.2⟩
end
abbrev sScore : ByteArray := ⟨#[115, 99, 111, 114, 101]⟩
def r0S : Rs := ⟨sScore, 3⟩
def saG (b : Nat) : Sa := ⟨none, 0, 0, [], some ⟨b, 0, none⟩, 1, 1, [r0S]⟩
theorem saG_fl (b : Nat) : allFl (saG b) = [] := by kernel_rfl
theorem saG_ok {w : World} {b : Nat} (h : Blk w b 65 ([r0S].flatMap encRs).toArray) : SaOk w w.heap.size (saG b) :=
  ⟨rfl, by simp [saG], by simp [saG], by simp [saG], ⟨rfl, fun h => by simp [saG] at h⟩, rfl, by simp [saG], by simp [saG], by intro x hx; simp [saG] at hx; rw [hx]; decide, ⟨rfl, fun _ => ⟨b, 0, rfl, h.lt, fun j u hu => by rw [Nat.zero_add]; exact h.at_ j (by rw [← hu]; simp [saG])⟩⟩⟩
set_option maxRecDepth 100000 in
set_option maxHeartbeats 8000000 in
theorem awakeG_calls {w : World} {ad : Nat → Addr} {K : List Nat} (hK : K5 K) (m7 : 7 ∈ K) (hs : Sents K w.heap.size w ad) : Calls Tryd.prog 6 #[] w fun e w' => e = .returned (.bool true) ∧ Fr [] w w' := by
  have H0 := hide hs
  have hf1 : Fr [] w (w.alloc (.cells ([r0S].flatMap encRs).toArray 65)) := (Fr.refl _ _).alloc _
  have hok := saG_ok (Blk.new w 65 ([r0S].flatMap encRs).toArray)
  have HN := hide (newG_calls hK (s := saG w.heap.size) ((hs.fr0 hf1).rebase) hok)
  rw [show (saG w.heap.size).val = .agg #[.slice none 0 0, .slice (some ⟨w.heap.size, 0, none⟩) 1 1] from rfl] at HN
  have H1 := hide hf1
  clear hs hf1 hok
  go_enter Tryd.func6, Tryd.ntmps6
  go_wp2_with fail
  refine HN.out.mono ?_
  rintro e w2 ⟨pv, ev, rfl, hp, hf2⟩
  have H2 := hide (H1.out.trans hf2)
  unfold NewPost at hp
  rw [saG_fl] at hp
  rcases hp with ⟨h, -⟩ | ⟨-, rfl, g, S, rfl, hg⟩
  · exact absurd rfl h
  have hg2 : GR w.heap.size w2 g [sScore] [3] 0 S := hg.up H1.out.size
  have n2 : ∀ (W : World), (binOp .neq 26 .nilIface .nilIface).run Tryd.prog W = .ok (.bool false) W := fun W => by kernel_rfl
  have e2 := eql_nil_nil
  have HA := hide (add_in (i := 0) (x := 3) hg2 (by simp) rfl 4 (by omega) (by omega))
  rw [show IntKind.i64.wrap (3 + 4) = 7 by rw [IntKind.wrap_i64]; rfl, show ([3] : List Int).set 0 7 = [7] from rfl, show ((0 : Nat) : Int) = 0 from rfl] at HA
  have HG2 := hide hg2
  clear hg hf2 hg2 HN
  go_wp2_with fail
  refine HA.out.mono ?_
  rintro e w3 ⟨rfl, hg, hf⟩
  have hS := hide (And.intro (hide (set_in (i := 0) (x := 7) hg (by simp) rfl 1 (by omega) (by omega))) (HG2.out.step H2.out (Nat.le_refl _) hf))
  have HS := hide hS.out.1.out
  rw [show ([7] : List Int).set 0 1 = [1] from rfl, show ((0 : Nat) : Int) = 0 from rfl, show (0 : Int) + 1 + 1 = 2 from rfl] at HS
  have HG3 := hide hg
  clear hg hf HA
  go_wp2_with fail
  refine HS.out.mono ?_
  rintro e w4 ⟨rfl, hg, hf⟩
  have H4 := hide (HG3.out.step hS.out.2 (Nat.le_refl _) hf)
  have HNm := hide (namedG_calls hg sScore)
  rw [show findI [sScore] sScore = some 0 by kernel_rfl] at HNm
  simp only [isAt, Option.getD_some, Option.isSome_some] at HNm
  have HSt := hide (fun W (hf : Fr [] w4 W) => set_out m7 (H0.out.fr0 (H4.out.trans hf)) (hg.fr0 hf) (by simp) (i := 1) (.inr (by simp)) 0)
  have HCh := hide (fun W (hf : Fr [] w4 W) => changes_calls (hg.fr0 hf))
  have HPt := hide (fun W (hf : Fr [] w4 W) => put_bad hK.m1 (c := 0) (A := none) (n := 0) (H0.out.fr0 (H4.out.trans hf)) (hg.fr0 hf) (by simp) (by simp) (by omega))
  have HSe := hide (fun W (hf : Fr [] w4 W) => H0.out.fr0 (H4.out.trans hf))
  clear hg hf HS hS
  go_wp2_with fail
  refine HNm.out.mono ?_
  rintro e w' ⟨rfl, rfl⟩
  go_wp2_with fail
  refine (HSt.out _ (Fr.refl _ _)).mono ?_
  rintro e w5 ⟨x, rfl, hx, hf5⟩
  have H5 := hide hf5
  have HI1 := hide (fun W (hf : Fr [] w5 W) => is_hc (HSe.out _ (hf5.trans hf)) (j := 7) m7 (hx.fr0 hf) m7)
  rw [decide_eq_true rfl] at HI1
  have q7 : w5.drew.cell? ⟨1, 0, none⟩ = some (sv (ad 7)) := (HSe.out _ hf5).cell 7 m7
  have q1 : w5.drew.cell? ⟨2, 0, none⟩ = some (sv (ad 1)) := (HSe.out _ hf5).cell 1 hK.m1
  clear hx hf5 HSt HNm
  go_wp2_with fail
  have HK : Hid (∀ W, Fr [] w4 W → W.cell? ⟨1, 0, none⟩ = some (sv (ad 7)) ∧ W.cell? ⟨2, 0, none⟩ = some (sv (ad 1))) := hide (fun W (hf : Fr [] w4 W) => And.intro ((HSe.out W hf).cell 7 m7) ((HSe.out W hf).cell 1 hK.m1))
  have lN := (HSe.out _ H5.out).glob 7 m7
  have lA := (HSe.out _ H5.out).glob 1 hK.m1
  go_region_held3 (fun w' => w'.cell? ⟨1, 0, none⟩ = some (sv (ad 7)) ∧ w'.cell? ⟨2, 0, none⟩ = some (sv (ad 1))) (first | exact ⟨q7, q1⟩ | with_reducible assumption)
    (first
      | (go_at_call 12; with_reducible refine (HCh.out _ (H5.out.trans (show Fr [] w5 _ by (repeat (first | exact Fr.refl _ _ | apply Fr.drew | apply Fr.drewN | apply Fr.alloc | (refine Fr.setCell ?_ (by first | (left; simp [Value.ownBlock]; done) | (right; simp; omega) | (right; simp; done)) _)))))).mono ?_; rintro e y0 ⟨rfl, rfl⟩)
      | (go_at_call 17; with_reducible refine (HI1.out _ (show Fr [] w5 _ by (repeat (first | exact Fr.refl _ _ | apply Fr.drew | apply Fr.drewN | apply Fr.alloc | (refine Fr.setCell ?_ (by first | (left; simp [Value.ownBlock]; done) | (right; simp; omega) | (right; simp; done)) _))))).mono ?_; rintro e y1 ⟨rfl, hf⟩; have Y1 := hide (H5.out.trans ((show Fr [] w5 _ by (repeat (first | exact Fr.refl _ _ | apply Fr.drew | apply Fr.drewN | apply Fr.alloc | (refine Fr.setCell ?_ (by first | (left; simp [Value.ownBlock]; done) | (right; simp; omega) | (right; simp; done)) _)))).trans hf)); have K1 := HK.out _ Y1.out; clear hf)
      | (go_at_call 17; with_reducible refine HI2.out.mono ?_; rintro e y3 ⟨rfl, hf⟩; have Y3 := hide (Y2.out.trans hf); have K3 := HK.out _ Y3.out; clear hf)
      | (go_at_call 15; with_reducible refine (HPt.out _ Y1.out).mono ?_; rintro e y2 ⟨x2, rfl, hx2, hf⟩; have Y2 := hide (Y1.out.trans hf); have K2 := HK.out _ Y2.out; have HI2 := hide (is_hc (HSe.out _ Y2.out) (j := 1) hK.m1 hx2 hK.m1); rw [decide_eq_true rfl] at HI2; clear hf hx2))
  go_wp2_with fail
  go_ret
  exact ⟨rfl, H4.out.trans Y3.out⟩
end Go.Proofs.YtnncbmbepdkfnaaDoor

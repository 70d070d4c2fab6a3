/- Check of package code by contract. -/
import Derived.Test.YthjakngpegdhmaaDoorLook4
namespace Go.Proofs.YthjakngpegdhmaaDoor
open Go.RowKit Go.Deep
attribute [local go_sem ↓] Go.wp_at_zero Go.wp_at_succ

theorem Sents.up {K : List Nat} {B B' : Nat} {w : World} {ad : Nat → Addr} (h : Sents K B w ad) (hB : B ≤ B') (hw : B' ≤ w.heap.size) : Sents K B' w ad :=
  ⟨hw, fun k hk => Nat.lt_of_lt_of_le (h.glob k hk) hB, h.cell, fun k hk => Nat.lt_of_lt_of_le (h.lt k hk) hB, h.blk, h.inj⟩
theorem untold_not {L : List Ins} (h : Untold L) (ds : List Int) : ¬ Told L ds := fun ht => h.elim (fun h => h ht.valid) fun h => h _ ht.cons
def okC (cs : List (Int × Bool)) (nr : Nat) (L : List Ins) : Prop := L.length ≤ 64 ∧ (∀ x ∈ L, insB cs nr L.length x = true) ∧ ∃ ds, Told L ds
def ChkPost (w : World) (ad : Nat → Addr) (cs : List (Int × Bool)) (nr : Nat) (L : List Ins) (e : Ending) (w' : World) : Prop :=
  ∃ v, e = .returned v ∧ Fr [] w w' ∧ (okC cs nr L → v = .nilIface) ∧ (¬ okC cs nr L → ∃ t a, v = .iface t (.pointer (some a))) ∧ (L.length ≤ 64 → (∀ x ∈ L, insB cs nr L.length x = true) → Untold L → NewErr w w' ad v 12)
/-- what is known within Check -/
structure ChkR (K : List Nat) (w : World) (ad : Nat → Addr) (g : Nat) (s0 s1 : Value) (n : Nat) (bs S : List Nat) (wr : World) : Prop where
  lk : LookR w.heap.size wr g [s0, s1] n bs S
  fr : Fr [] w wr
section
variable {K : List Nat} {w wr wr' : World} {ad : Nat → Addr} {g : Nat} {s0 s1 : Value} {n : Nat} {bs S : List Nat}
theorem ChkR.fr0 (h : ChkR K w ad g s0 s1 n bs S wr) (hf : Fr [] wr wr') : ChkR K w ad g s0 s1 n bs S wr' := ⟨h.lk.fr0 hf, h.fr.trans hf⟩
theorem ChkR.stp {bs' S' : List Nat} (h : ChkR K w ad g s0 s1 n bs S wr) (hl : LookR w.heap.size wr' g [s0, s1] n bs' S') (hs : Stp S S' wr wr') : ChkR K w ad g s0 s1 n bs' S' wr' :=
  ⟨hl, h.fr.step hs.fr fun x hx => .inr (h.lk.ge x hx).1⟩
end
/-- within the loop: i instructions are looked through; bs0: the errors ahead of it -/
structure ChkI (K : List Nat) (w : World) (ad : Nat → Addr) (g : Nat) (s0 s1 : Value) (n nr : Nat) (cs : List (Int × Bool)) (L : List Ins) (bs0 : List Nat) (i : Nat) (bs S : List Nat) (wr : World) : Prop where
  ck : ChkR K w ad g s0 s1 n bs S wr
  yes : (∀ j x, j < i → L[j]? = some x → insB cs nr n x = true) → bs = bs0
  no : ∀ j x, j < i → L[j]? = some x → insB cs nr n x = false → bs ≠ []
  keep : bs0 ≠ [] → bs ≠ []
  le : bs.length ≤ bs0.length + 2 * i ∧ bs0.length ≤ 1
theorem ChkI.start {K : List Nat} {w : World} {ad : Nat → Addr} {g : Nat} {s0 s1 : Value} {n nr : Nat} {cs : List (Int × Bool)} {L : List Ins} {bs0 S : List Nat} {wr : World} (h : ChkR K w ad g s0 s1 n bs0 S wr) (hb : bs0.length ≤ 1 := by simp) : ChkI K w ad g s0 s1 n nr cs L bs0 0 bs0 S wr :=
  ⟨h, fun _ => rfl, fun j x hj => by omega, fun h => h, by omega, hb⟩
theorem ChkI.next {K : List Nat} {w : World} {ad : Nat → Addr} {g : Nat} {s0 s1 : Value} {n nr : Nat} {cs : List (Int × Bool)} {L : List Ins} {bs0 bs bs' S S' : List Nat} {i : Nat} {wr w' : World} {x : Ins} (h : ChkI K w ad g s0 s1 n nr cs L bs0 i bs S wr) (hx : L[i]? = some x) (hS : Stp S S' wr w') (hL : LookR w.heap.size w' g [s0, s1] n bs' S')
    (hy : insB cs nr n x = true → bs' = bs) (hn : insB cs nr n x = false → bs' ≠ []) (h1 : bs.length ≤ bs'.length) (h2 : bs'.length ≤ bs.length + 2) : ChkI K w ad g s0 s1 n nr cs L bs0 (i + 1) bs' S' w' := by
  have key : bs ≠ [] → bs' ≠ [] := fun hb he => by
    rw [he] at h1
    exact hb (List.eq_nil_of_length_eq_zero (by simpa using h1))
  refine ⟨h.ck.stp hL hS, fun hall => ?_, fun j y hj hy2 hf => ?_, fun hb => key (h.keep hb), ?_, h.le.2⟩
  · rw [hy (hall i x (by omega) hx)]
    exact h.yes fun j y hj => hall j y (by omega)
  · rcases Nat.lt_succ_iff_lt_or_eq.1 hj with hj | rfl
    · exact key (h.no j y hj hy2 hf)
    · obtain rfl := Option.some.inj (hx.symm.trans hy2)
      exact hn hf
  · have := h.le.1
    omega
theorem look_end2 {B : Nat} {w W w3 : World} {g gg cap n : Nat} {s0 s1 vE : Value} {bs : List Nat} {b : Nat} {cs : Array Value} (hE : w.ownsRow B 39 1 vE bs.length (bvs bs)) (hB : B ≤ g) (hne : vE.ownBlock ≠ some g) (hlt : g < w.heap.size) (hf : Fr [] w W)
    (hg3 : Blk w3 g 70 ([s0, s1] ++ [Value.int .i64 n, vE]).toArray) (hown : w3.ownsRow B 39 1 (.slice (some ⟨gg, 0, none⟩) (bs.length + 1) cap) (bs.length + 1) (bvs bs ++ [bv b])) (hgrow : W.grownBy w3 vE.ownBlock)
    (hat : vE.ownBlock = some gg ∨ gg = W.heap.size) (hsz : w.heap.size ≤ W.heap.size) (hb : Blk W b 86 cs) (hbw : w.heap.size ≤ b) :
    ∃ S', LookR B (w3.setCell ⟨g, 3, none⟩ (.slice (some ⟨gg, 0, none⟩) (bs.length + 1) cap)) g [s0, s1] n (bs ++ [b]) S' ∧ Stp (g :: vE.ownBlock.toList) S' w (w3.setCell ⟨g, 3, none⟩ (.slice (some ⟨gg, 0, none⟩) (bs.length + 1) cap)) ∧ Blk (w3.setCell ⟨g, 3, none⟩ (.slice (some ⟨gg, 0, none⟩) (bs.length + 1) cap)) b 86 cs := by
  have hgg : gg ≠ g := by
    rintro rfl
    rcases hat with hat | hat
    · exact hne hat
    · omega
  refine ⟨_, ⟨.slice (some ⟨gg, 0, none⟩) (bs.length + 1) cap, hg3.set_ 3 _, rfl, ?_, hB, rfl⟩, ⟨?_, ?_⟩, ?_⟩
  · have := row_far hown (p := ⟨g, 3, none⟩) (by simpa [Value.ownBlock] using hgg) (.slice (some ⟨gg, 0, none⟩) (bs.length + 1) cap)
    simpa [bvs] using this
  · exact (((hf.any _).grown hgrow fun k hk => .inl (by simp [hk])).setCell (p := ⟨g, 3, none⟩) (.inl (by simp)) _)
  · intro x hx
    simp [Value.ownBlock] at hx
    rcases hx with rfl | rfl
    · exact .inl (by simp)
    · exact hat.elim (fun e => .inl (by simp [e])) fun e => .inr (by omega)
  · refine (hb.grown hgrow ?_).far (p := ⟨g, 3, none⟩) (by show b ≠ g; omega) _
    intro he
    have := (row_lt hE he.symm).1
    omega
set_option maxRecDepth 100000 in
set_option maxHeartbeats 8000000 in
theorem check_calls {K : List Nat} {B0 : Nat} {ad : Nat → Addr} {w : World} {A1 : Option Addr} {c1 nr : Nat} {s0 : Value} {cs : List (Int × Bool)} (hs : Sents K B0 w ad) (hK1 : 1 ∈ K) (hK4 : 4 ∈ K) (hK12 : 12 ∈ K) (hK13 : 13 ∈ K) (hK14 : 14 ∈ K)
    (hc : SchR w.heap.size w s0 cs) (hT : RowsT w) (hTB : 1 < w.heap.size) (hl : cs.length ≤ 1000000) (hnr : nr ≤ 1000000)
    {A : Option Addr} {n c : Nat} {L : List Ins} (hr : Reads w w.heap.size 3 A n (L.flatMap encIns)) (hln : L.length = n) (hn : n ≤ 99) :
    Calls Tryd.prog 15 #[.agg #[s0, .slice A1 nr c1], .slice A n c] w (ChkPost w ad cs nr L) := by
  have H0 := hide (And.intro (hs.up hs.le (Nat.le_refl _)) (And.intro hc (And.intro hT (And.intro hTB (And.intro hr hln)))))
  have HK := hide (And.intro hK1 (And.intro hK4 (And.intro hK12 (And.intro hK13 hK14))))
  clear hs hc hT hTB hr hK1 hK4 hK12 hK13 hK14
  have n0 : (0 : Int) ≤ (n : Int) := by omega
  have n1 : (n : Int) ≤ 99 := by omega
  go_enter Tryd.func15, Tryd.ntmps15
  go_upto_region 2 with (fail)
  have H1 : Hid (ChkR K w ad (w.heap.size + 1) s0 (.slice A1 nr c1) n [] [w.heap.size + 1] ((w.alloc (.cells #[s0, .slice A1 nr c1] 44)).alloc (.cells #[s0, .slice A1 nr c1, .int .i64 n, .slice none 0 0] 70))) := hide
    ⟨⟨.slice none 0 0, Blk.new_at _ _ _ _ (by simp), rfl, World.ownsRow_nil _ _ _ _, by omega, by simp [Value.ownBlock]⟩, ((Fr.refl _ _).alloc _).alloc _⟩
  generalize hw1 : World.alloc (World.alloc w _) _ = w1 at *
  clear hw1
  generalize hgg : w.heap.size + 1 = g at *
  have Hgg := hide hgg
  clear hgg
  by_cases h64 : n ≤ 64
  · have i64 : (n : Int) ≤ 64 := by omega
    obtain ⟨bs0, hBS⟩ : ∃ bs0 : List Nat, bs0 = [] := ⟨_, rfl⟩
    have HI0 : Hid (ChkI K w ad g s0 (.slice A1 nr c1) n nr cs L bs0 0 bs0 [g] w1) := hide (by subst hBS; exact ChkI.start H1.out)
    go_wp2_with fail
    go_loopw [31] (fun s31 wr => ∃ (i : Nat) (bs S : List Nat), i ≤ n ∧ s31 = .int .i64 i ∧ ChkI K w ad g s0 (.slice A1 nr c1) n nr cs L bs0 i bs S wr) (fun s31 _ => n - (intOf s31).toNat)
    case atStart => exact ⟨0, _, _, by omega, rfl, HI0.out⟩
    case round =>
      obtain ⟨i, bs, S, hi, rfl, hI⟩ := hrel
      clear HI0
      have HI := hide hI
      clear hI
      by_cases hi1 : i < n
      · obtain ⟨x, hx⟩ : ∃ x, L[i]? = some x := ⟨_, List.getElem?_eq_getElem (by omega)⟩
        have hfr := HI.out.ck.fr
        have hBw := hfr.size
        have hrr := H0.out.2.2.2.2.1.below (hfr.below (by simp) (Nat.le_refl _))
        obtain ⟨bA, oA, rfl, hbA, a0, a1, a2⟩ := ins_get hrr hln hx
        have HC := hide (instruction_calls (H0.out.1.fr0 (hfr.trans ((Fr.refl [] _).alloc (.cells #[.int .i64 x.op, .int .i64 x.a, .int .i64 x.b] 50)))) HK.out.1 HK.out.2.2.2.1 HK.out.2.2.2.2 (HI.out.ck.lk.fr0 ((Fr.refl [] _).alloc (.cells #[.int .i64 x.op, .int .i64 x.a, .int .i64 x.b] 50))) (H0.out.2.1.fr (hfr.trans ((Fr.refl [] _).alloc (.cells #[.int .i64 x.op, .int .i64 x.a, .int .i64 x.b] 50))) (by simp) (Nat.le_refl _)) (H0.out.2.2.1.fr0 (hfr.trans ((Fr.refl [] _).alloc (.cells #[.int .i64 x.op, .int .i64 x.a, .int .i64 x.b] 50)))) H0.out.2.2.2.1 hl hnr (by have := HI.out.le; omega) (i := i) (by omega) x)
        have HX := hide hx
        have i0 : (0 : Int) ≤ (i : Int) := by omega
        have i1 : (i : Int) < (n : Int) := by omega
        have lbA : bA < wr.heap.size := Nat.lt_of_lt_of_le hbA hBw
        clear hrr hfr hx hBw
        obtain ⟨op, ia, ib⟩ := x
        simp only at a0 a1 a2
        go_wp2_with fail
        refine HC.out.mono ?_
        rintro e w5 ⟨rfl, bs', S', hL5, hS5, hy, hn5, hle1, hle2⟩
        have HI5 : Hid (ChkI K w ad g s0 (.slice A1 nr c1) n nr cs L bs0 (i + 1) bs' S' w5) := hide (HI.out.next HX.out (Stp.trans (⟨((Fr.refl [] _).alloc _).any S, fun b hb => .inl hb⟩ : Stp S S wr _) hS5) hL5 hy hn5 hle1 hle2)
        clear hL5 hS5 hy hn5 hle1 hle2
        go_wp2_with fail
        go_roundw
        case rel => exact ⟨i + 1, bs', S', by omega, by go_num, HI5.out⟩
        case measure => simp [intOf]; omega
      · have hin : i = n := by omega
        subst hin
        by_cases hb0 : bs = []
        · subst hb0
          have hall : ∀ x ∈ L, insB cs nr i x = true := fun x hx => by
            obtain ⟨j, hj⟩ := List.getElem?_of_mem hx
            have hjl := (List.getElem?_eq_some_iff.1 hj).1
            cases hv : insB cs nr i x
            · exact absurd rfl (HI.out.no j x (by omega) hj hv)
            · rfl
          have hfr := HI.out.ck.fr
          have HD := hide (depths_calls (B := w.heap.size) (c := c) (H0.out.2.2.2.2.1.below (hfr.below (by simp) (Nat.le_refl _))) hln (H0.out.2.2.1.fr0 hfr) H0.out.2.2.2.1 hfr.size (by omega))
          have Hall := hide hall
          obtain ⟨vE9, hg9, -, hE9, -, -⟩ := HI.out.ck.lk
          have g9 := hg9.at_ 3 (v := vE9) rfl
          have lg9 := hg9.lt
          obtain ⟨A9, c9, rfl⟩ : ∃ A c, vE9 = .slice A 0 c := by
            rcases row_form hE9 with ⟨rfl, h0, _⟩ | ⟨g, cap, rfl, _⟩
            · exact ⟨none, 0, rfl⟩
            · exact ⟨_, _, rfl⟩
          clear hg9 hE9 hall hfr
          go_wp2_with fail
          refine HD.out.mono ?_
          rintro e w5 ⟨hf5, ⟨ds, gD, cD, hT, rfl, -⟩ | ⟨hU, rfl⟩⟩
          · have HI5 := hide (HI.out.ck.fr0 hf5)
            have hTld := hT
            have hok : okC cs nr L := ⟨by omega, fun x hx => by rw [hln]; exact Hall.out x hx, ds, hT⟩
            have Hok := hide hok
            obtain ⟨vE5, hg5, -, hE5, -, -⟩ := HI5.out.lk
            have g5 := hg5.at_ 3 (v := vE5) rfl
            have lg5 := hg5.lt
            have HAll := hide (all_calls hE5 (by simp))
            clear hg5 hE5 hT hok hf5 g9 lg9
            go_wp2_with fail
            refine HAll.out.mono ?_
            rintro e w9 ⟨v9, rfl, hf9, h9, -, -⟩
            obtain rfl := h9 rfl
            have HE9 : Hid (ChkPost w ad cs nr L (.returned .nilIface) w9) := hide ⟨_, rfl, HI5.out.fr.trans hf9, fun _ => rfl, fun h => absurd Hok.out h, fun _ _ h => absurd hTld (untold_not h ds)⟩
            clear hf9 h9
            go_wp2_with fail
            go_ret
            exact HE9.out
          · have H5 := hide (HI.out.ck.fr0 hf5)
            have HU := hide hU
            clear hf5 hU g9 lg9
            have HKK := HK.out.2.2.1
            obtain ⟨vE, hg, -, hE, hB, hS⟩ := H5.out.lk
            have hne : vE.ownBlock ≠ some g := row_blk_ne hE hg (by decide)
            have g2 := hg.at_ 3 (v := vE) rfl
            have lg := hg.lt
            have fg := hg.frozen 3
            have hs1 := H0.out.1.fr0 H5.out.fr
            have e4 := hs1.cell 12 HKK
            have l4 := Nat.lt_of_lt_of_le (hs1.glob 12 HKK) hs1.le
            change w5.cell? ⟨0, 0, none⟩ = some (sv (ad 12)) at e4
            change 0 < w5.heap.size at l4
            have hBw : w.heap.size ≤ w5.heap.size := H5.out.fr.size
            have HH := hide (And.intro hg (And.intro hE (And.intro hB (And.intro hne hS))))
            have K3 : Hid (([s0, .slice A1 nr c1] ++ [Value.int .i64 i, vE]).toArray[3]? = some vE) := hide rfl
            have q1 : ∀ o1, (w5.alloc o1).cell? ⟨g, 3, none⟩ = some vE := fun o1 => keep_fr HH.out.1 3 K3.out (by (repeat (first | exact Fr.refl _ _ | apply Fr.drew | apply Fr.drewN | apply Fr.alloc | (refine Fr.setCell ?_ (by first | (left; simp [Value.ownBlock]; done) | (right; simp; omega) | (right; simp; done)) _))))
            have q2 : ∀ o1 o2, ((w5.alloc o1).alloc o2).cell? ⟨g, 3, none⟩ = some vE := fun o1 o2 => keep_fr HH.out.1 3 K3.out (by (repeat (first | exact Fr.refl _ _ | apply Fr.drew | apply Fr.drewN | apply Fr.alloc | (refine Fr.setCell ?_ (by first | (left; simp [Value.ownBlock]; done) | (right; simp; omega) | (right; simp; done)) _))))
            have HA := hide at_err
            clear hg hE hB hne hS hs1
            obtain ⟨i0, hi0, hz0, hs0, hb0⟩ := info_parts infoErr
            go_wp2_with fail
            go_region_law (first | (refine step_open (by rfl) ?_; go_wp2_with fail; go_at_call 21; ((with_reducible refine (HA.out _ _ _ _).mono ?_)); rintro e w' ⟨rfl, rfl⟩; go_wp2_with fail) | (refine step_append_lies _ (by rfl) _ _ _ (by rfl) w.heap.size 39 i0 _ 1 16 Tryd.underlying68 hi0 hz0 hs0 hb0 rfl (by omega) vE 0 (bvs []) (by rfl) (row_fr HH.out.2.1 (show Fr [] w5 _ by (repeat (first | exact Fr.refl _ _ | apply Fr.drew | apply Fr.drewN | apply Fr.alloc | (refine Fr.setCell ?_ (by first | (left; simp [Value.ownBlock]; done) | (right; simp; omega) | (right; simp; done)) _)))) (by simp)) ⟨w5.heap.size + 1, 0, none⟩ 1 1 [bv w5.heap.size] (by rfl) (by rfl) (World.news_of_block (cs := #[bv w5.heap.size]) (t := 39) (fr := (0, 0)) (Blk.new_at _ _ _ _ (by simp))) (by simp [Value.oneCell']) (by omega) (by unfold maxLen; omega) (by omega) (by simp; omega) (w5.heap.size + 2) (by simp) ?_; intro gg cap w3 hown3 hgrow hat hlt; have hg3 := hide ((HH.out.1.fr0 (show Fr [] w5 _ by (repeat (first | exact Fr.refl _ _ | apply Fr.drew | apply Fr.drewN | apply Fr.alloc | (refine Fr.setCell ?_ (by first | (left; simp [Value.ownBlock]; done) | (right; simp; omega) | (right; simp; done)) _))))).grown hgrow (Ne.symm HH.out.2.2.2.1)); have fg3 := hg3.out.frozen 3; have cg3 := hg3.out.at_ 3 (v := vE) rfl; have lg3 := hg3.out.lt))
            all_goals
              have HE : Hid (∃ S', LookR w.heap.size (w3.setCell ⟨g, 3, none⟩ (.slice (some ⟨gg, 0, none⟩) (0 + 1) cap)) g [s0, .slice A1 nr c1] i ([] ++ [w5.heap.size]) S' ∧ Stp (g :: vE.ownBlock.toList) S' w5 (w3.setCell ⟨g, 3, none⟩ (.slice (some ⟨gg, 0, none⟩) (0 + 1) cap)) ∧ Blk (w3.setCell ⟨g, 3, none⟩ (.slice (some ⟨gg, 0, none⟩) (0 + 1) cap)) w5.heap.size 86 #[.string ⟨#[99, 111, 100, 101]⟩, sv (ad 12)]) := hide
                (look_end2 (bs := []) (W := _) HH.out.2.1 HH.out.2.2.1 HH.out.2.2.2.1 lg (by (repeat (first | exact Fr.refl _ _ | apply Fr.drew | apply Fr.drewN | apply Fr.alloc | (refine Fr.setCell ?_ (by first | (left; simp [Value.ownBlock]; done) | (right; simp; omega) | (right; simp; done)) _)))) hg3.out hown3 hgrow (by simpa using hat) (by simp; omega) (Blk.fr0 (Blk.new w5 86 _) (by (repeat (first | exact Fr.refl _ _ | apply Fr.drew | apply Fr.drewN | apply Fr.alloc | (refine Fr.setCell ?_ (by first | (left; simp [Value.ownBlock]; done) | (right; simp; omega) | (right; simp; done)) _))))) (Nat.le_refl _))
              obtain ⟨w6, hw6⟩ : ∃ w6, w6 = w3.setCell ⟨g, 3, none⟩ (.slice (some ⟨gg, 0, none⟩) (0 + 1) cap) := ⟨_, rfl⟩
              have HE6 : Hid (∃ S', ChkR K w ad g s0 (.slice A1 nr c1) i [w5.heap.size] S' w6 ∧ Blk w6 w5.heap.size 86 #[.string ⟨#[99, 111, 100, 101]⟩, sv (ad 12)]) := hide (by
                obtain ⟨S', h1, h2, h3⟩ := HE.out
                rw [← hw6] at h1 h2 h3
                exact ⟨S', H5.out.stp h1 (by rw [HH.out.2.2.2.2]; exact h2), h3⟩)
              simp only [Nat.zero_add] at hw6
              rw [← hw6]
              clear hw6 HE hg3 hown3 hgrow hat hlt fg3 cg3 lg3 q1 q2 g2 fg e4 l4 K3 HH hBw
              obtain ⟨S6, hC6, hb6⟩ := HE6.out
              obtain ⟨vE6, hg6, -, hE6, -, -⟩ := hC6.lk
              have g6 := hg6.at_ 3 (v := vE6) rfl
              have lg6 := hg6.lt
              have HAll := hide (all_calls hE6 (by simp))
              have HC6 := hide (And.intro hC6 hb6)
              have hle5 := hide H5.out.fr.size
              clear hg6 hE6 hC6 hb6 HE6 lg
              go_wp2_with fail
              refine HAll.out.mono ?_
              rintro e w9 ⟨v9, rfl, hf9, -, h9, -⟩
              obtain rfl := h9 _ rfl
              have HE9 : Hid (ChkPost w ad cs nr L (.returned (bv w5.heap.size)) w9) := hide ⟨_, rfl, HC6.out.1.fr.trans hf9, fun h => absurd h.2.2.choose_spec (untold_not HU.out _), fun _ => ⟨_, _, rfl⟩, fun _ _ _ => ⟨_, _, hle5.out, rfl, HC6.out.2.fr0 hf9⟩⟩
              clear hf9 h9
              go_wp2_with fail
              go_ret
              exact HE9.out
        · have hne0 : bs ≠ [] := hb0
          obtain ⟨vE9, hg9, -, hE9, -, -⟩ := HI.out.ck.lk
          have g9 := hg9.at_ 3 (v := vE9) rfl
          have lg9 := hg9.lt
          obtain ⟨A9, c9, rfl⟩ : ∃ A c, vE9 = .slice A bs.length c := by
            rcases row_form hE9 with ⟨rfl, h0, _⟩ | ⟨g, cap, rfl, _⟩
            · exact ⟨none, 0, by rw [h0]⟩
            · exact ⟨_, _, rfl⟩
          have HAll := hide (all_calls hE9 (by have := HI.out.le; omega))
          have hlen : (bs.length : Int) ≠ 0 := by
            have := List.length_pos_iff.2 hne0
            omega
          have hlen2 : ((bs.length : Int) == 0) = false := by simpa using hlen
          have HNot : Hid (¬ okC cs nr L) := hide fun h => hb0 (by rw [HI.out.yes fun j x _ hj => by have := h.2.1 x (List.mem_of_getElem? hj); rwa [hln] at this]; exact hBS)
          have HNe := hide hne0
          clear hg9 hE9 hne0 hlen
          generalize bs.length = lb at *
          go_wp2_with fail
          refine HAll.out.mono ?_
          rintro e w9 ⟨v9, rfl, hf9, -, -, h9⟩
          obtain ⟨t9, a9, rfl⟩ := h9 HNe.out
          have HE9 : Hid (ChkPost w ad cs nr L (.returned (.iface t9 (.pointer (some a9)))) w9) := hide ⟨_, rfl, HI.out.ck.fr.trans hf9, fun h => absurd h HNot.out, fun _ => ⟨_, _, rfl⟩, fun _ h => absurd (by rw [HI.out.yes fun j x _ hj => by have := h x (List.mem_of_getElem? hj); rwa [hln] at this]; exact hBS) HNe.out⟩
          clear hf9 h9
          go_wp2_with fail
          go_ret
          exact HE9.out
  · have i64 : (64 : Int) < (n : Int) := by omega
    have HKK := HK.out.2.1
    obtain ⟨vE, hg, -, hE, hB, hS⟩ := H1.out.lk
    have hne : vE.ownBlock ≠ some g := row_blk_ne hE hg (by decide)
    have g2 := hg.at_ 3 (v := vE) rfl
    have lg := hg.lt
    have fg := hg.frozen 3
    have hs1 := H0.out.1.fr0 H1.out.fr
    have e4 := hs1.cell 4 HKK
    have l4 := Nat.lt_of_lt_of_le (hs1.glob 4 HKK) hs1.le
    change w1.cell? ⟨2, 0, none⟩ = some (sv (ad 4)) at e4
    change 2 < w1.heap.size at l4
    have hBw : w.heap.size ≤ w1.heap.size := H1.out.fr.size
    have HH := hide (And.intro hg (And.intro hE (And.intro hB (And.intro hne hS))))
    have K3 : Hid (([s0, .slice A1 nr c1] ++ [Value.int .i64 n, vE]).toArray[3]? = some vE) := hide rfl
    have q1 : ∀ o1, (w1.alloc o1).cell? ⟨g, 3, none⟩ = some vE := fun o1 => keep_fr HH.out.1 3 K3.out (by (repeat (first | exact Fr.refl _ _ | apply Fr.drew | apply Fr.drewN | apply Fr.alloc | (refine Fr.setCell ?_ (by first | (left; simp [Value.ownBlock]; done) | (right; simp; omega) | (right; simp; done)) _))))
    have q2 : ∀ o1 o2, ((w1.alloc o1).alloc o2).cell? ⟨g, 3, none⟩ = some vE := fun o1 o2 => keep_fr HH.out.1 3 K3.out (by (repeat (first | exact Fr.refl _ _ | apply Fr.drew | apply Fr.drewN | apply Fr.alloc | (refine Fr.setCell ?_ (by first | (left; simp [Value.ownBlock]; done) | (right; simp; omega) | (right; simp; done)) _))))
    have HA := hide at_err
    clear hg hE hB hne hS hs1
    obtain ⟨i0, hi0, hz0, hs0, hb0⟩ := info_parts infoErr
    go_wp2_with fail
    go_region_law (first | (refine step_open (by rfl) ?_; go_wp2_with fail; go_at_call 21; ((with_reducible refine (HA.out _ _ _ _).mono ?_)); rintro e w' ⟨rfl, rfl⟩; go_wp2_with fail) | (refine step_append_lies _ (by rfl) _ _ _ (by rfl) w.heap.size 39 i0 _ 1 16 Tryd.underlying68 hi0 hz0 hs0 hb0 rfl (by omega) vE 0 (bvs []) (by rfl) (row_fr HH.out.2.1 (show Fr [] w1 _ by (repeat (first | exact Fr.refl _ _ | apply Fr.drew | apply Fr.drewN | apply Fr.alloc | (refine Fr.setCell ?_ (by first | (left; simp [Value.ownBlock]; done) | (right; simp; omega) | (right; simp; done)) _)))) (by simp)) ⟨w1.heap.size + 1, 0, none⟩ 1 1 [bv w1.heap.size] (by rfl) (by rfl) (World.news_of_block (cs := #[bv w1.heap.size]) (t := 39) (fr := (0, 0)) (Blk.new_at _ _ _ _ (by simp))) (by simp [Value.oneCell']) (by omega) (by unfold maxLen; omega) (by omega) (by simp; omega) (w1.heap.size + 2) (by simp) ?_; intro gg cap w3 hown3 hgrow hat hlt; have hg3 := hide ((HH.out.1.fr0 (show Fr [] w1 _ by (repeat (first | exact Fr.refl _ _ | apply Fr.drew | apply Fr.drewN | apply Fr.alloc | (refine Fr.setCell ?_ (by first | (left; simp [Value.ownBlock]; done) | (right; simp; omega) | (right; simp; done)) _))))).grown hgrow (Ne.symm HH.out.2.2.2.1)); have fg3 := hg3.out.frozen 3; have cg3 := hg3.out.at_ 3 (v := vE) rfl; have lg3 := hg3.out.lt))
    all_goals
      have HE : Hid (∃ S', LookR w.heap.size (w3.setCell ⟨g, 3, none⟩ (.slice (some ⟨gg, 0, none⟩) (0 + 1) cap)) g [s0, .slice A1 nr c1] n ([] ++ [w1.heap.size]) S' ∧ Stp (g :: vE.ownBlock.toList) S' w1 (w3.setCell ⟨g, 3, none⟩ (.slice (some ⟨gg, 0, none⟩) (0 + 1) cap)) ∧ Blk (w3.setCell ⟨g, 3, none⟩ (.slice (some ⟨gg, 0, none⟩) (0 + 1) cap)) w1.heap.size 86 #[.string ⟨#[99, 111, 100, 101]⟩, sv (ad 4)]) := hide
        (look_end2 (bs := []) (W := _) HH.out.2.1 HH.out.2.2.1 HH.out.2.2.2.1 lg (by (repeat (first | exact Fr.refl _ _ | apply Fr.drew | apply Fr.drewN | apply Fr.alloc | (refine Fr.setCell ?_ (by first | (left; simp [Value.ownBlock]; done) | (right; simp; omega) | (right; simp; done)) _)))) hg3.out hown3 hgrow (by simpa using hat) (by simp; omega) (Blk.fr0 (Blk.new w1 86 _) (by (repeat (first | exact Fr.refl _ _ | apply Fr.drew | apply Fr.drewN | apply Fr.alloc | (refine Fr.setCell ?_ (by first | (left; simp [Value.ownBlock]; done) | (right; simp; omega) | (right; simp; done)) _))))) (Nat.le_refl _))
      have HI0 : Hid (ChkI K w ad g s0 (.slice A1 nr c1) n nr cs L ([] ++ [w1.heap.size]) 0 ([] ++ [w1.heap.size]) HE.out.choose (w3.setCell ⟨g, 3, none⟩ (.slice (some ⟨gg, 0, none⟩) (0 + 1) cap))) := hide (ChkI.start (H1.out.stp HE.out.choose_spec.1 (by rw [HH.out.2.2.2.2]; exact HE.out.choose_spec.2.1)))
      generalize hBS : ([] ++ [w1.heap.size] : List Nat) = bs0 at *
      go_wp2_with fail
      go_loopw [31] (fun s31 wr => ∃ (i : Nat) (bs S : List Nat), i ≤ n ∧ s31 = .int .i64 i ∧ ChkI K w ad g s0 (.slice A1 nr c1) n nr cs L bs0 i bs S wr) (fun s31 _ => n - (intOf s31).toNat)
      case atStart => exact ⟨0, _, _, by omega, rfl, HI0.out⟩
      case round =>
        obtain ⟨i, bs, S, hi, rfl, hI⟩ := hrel
        clear HI0
        have HI := hide hI
        clear hI
        by_cases hi1 : i < n
        · obtain ⟨x, hx⟩ : ∃ x, L[i]? = some x := ⟨_, List.getElem?_eq_getElem (by omega)⟩
          have hfr := HI.out.ck.fr
          have hBw := hfr.size
          have hrr := H0.out.2.2.2.2.1.below (hfr.below (by simp) (Nat.le_refl _))
          obtain ⟨bA, oA, rfl, hbA, a0, a1, a2⟩ := ins_get hrr hln hx
          have HC := hide (instruction_calls (H0.out.1.fr0 (hfr.trans ((Fr.refl [] _).alloc (.cells #[.int .i64 x.op, .int .i64 x.a, .int .i64 x.b] 50)))) HK.out.1 HK.out.2.2.2.1 HK.out.2.2.2.2 (HI.out.ck.lk.fr0 ((Fr.refl [] _).alloc (.cells #[.int .i64 x.op, .int .i64 x.a, .int .i64 x.b] 50))) (H0.out.2.1.fr (hfr.trans ((Fr.refl [] _).alloc (.cells #[.int .i64 x.op, .int .i64 x.a, .int .i64 x.b] 50))) (by simp) (Nat.le_refl _)) (H0.out.2.2.1.fr0 (hfr.trans ((Fr.refl [] _).alloc (.cells #[.int .i64 x.op, .int .i64 x.a, .int .i64 x.b] 50)))) H0.out.2.2.2.1 hl hnr (by have := HI.out.le; omega) (i := i) (by omega) x)
          have HX := hide hx
          have i0 : (0 : Int) ≤ (i : Int) := by omega
          have i1 : (i : Int) < (n : Int) := by omega
          have lbA : bA < wr.heap.size := Nat.lt_of_lt_of_le hbA hBw
          clear hrr hfr hx hBw
          obtain ⟨op, ia, ib⟩ := x
          simp only at a0 a1 a2
          go_wp2_with fail
          refine HC.out.mono ?_
          rintro e w5 ⟨rfl, bs', S', hL5, hS5, hy, hn5, hle1, hle2⟩
          have HI5 : Hid (ChkI K w ad g s0 (.slice A1 nr c1) n nr cs L bs0 (i + 1) bs' S' w5) := hide (HI.out.next HX.out (Stp.trans (⟨((Fr.refl [] _).alloc _).any S, fun b hb => .inl hb⟩ : Stp S S wr _) hS5) hL5 hy hn5 hle1 hle2)
          clear hL5 hS5 hy hn5 hle1 hle2
          go_wp2_with fail
          go_roundw
          case rel => exact ⟨i + 1, bs', S', by omega, by go_num, HI5.out⟩
          case measure => simp [intOf]; omega
        · have hin : i = n := by omega
          subst hin
          have hne0 : bs ≠ [] := HI.out.keep (by rw [← hBS]; simp)
          obtain ⟨vE9, hg9, -, hE9, -, -⟩ := HI.out.ck.lk
          have g9 := hg9.at_ 3 (v := vE9) rfl
          have lg9 := hg9.lt
          obtain ⟨A9, c9, rfl⟩ : ∃ A c, vE9 = .slice A bs.length c := by
            rcases row_form hE9 with ⟨rfl, h0, _⟩ | ⟨g, cap, rfl, _⟩
            · exact ⟨none, 0, by rw [h0]⟩
            · exact ⟨_, _, rfl⟩
          have HAll := hide (all_calls hE9 (by have := HI.out.le; omega))
          have hlen : (bs.length : Int) ≠ 0 := by
            have := List.length_pos_iff.2 hne0
            omega
          have hlen2 : ((bs.length : Int) == 0) = false := by simpa using hlen
          have HNot : Hid (¬ okC cs nr L) := hide fun h => by have := h.1; omega
          have HNe := hide hne0
          clear hg9 hE9 hne0 hlen
          generalize bs.length = lb at *
          go_wp2_with fail
          refine HAll.out.mono ?_
          rintro e w9 ⟨v9, rfl, hf9, -, -, h9⟩
          obtain ⟨t9, a9, rfl⟩ := h9 HNe.out
          have HE9 : Hid (ChkPost w ad cs nr L (.returned (.iface t9 (.pointer (some a9)))) w9) := hide ⟨_, rfl, HI.out.ck.fr.trans hf9, fun h => absurd h HNot.out, fun _ => ⟨_, _, rfl⟩, fun h => by omega⟩
          clear hf9 h9
          go_wp2_with fail
          go_ret
          exact HE9.out
end Go.Proofs.YthjakngpegdhmaaDoor

/- blame.flat of any row, blame.All, blame.At. -/
import Derived.Test.YtnncbmbepdkfnaaDoorTree4
import Derived.Deep.DeepCutAuto
namespace Go.Proofs.YtnncbmbepdkfnaaDoor
open Go.RowKit Go.Extern.Stop Go.Stop Go.Extern
theorem flatten_take_le {α : Type} : ∀ (l : List (List α)) (k : Nat), (l.take k).flatten.length ≤ l.flatten.length
  | [], k => by simp
  | a :: r, 0 => by simp
  | a :: r, k + 1 => by
    have := flatten_take_le r k
    simp only [List.take_succ_cons, List.flatten_cons, List.length_append]; omega
theorem flatten_take_add {α : Type} {l : List (List α)} {k : Nat} {x : List α} (h : l[k]? = some x) : (l.take (k + 1)).flatten = (l.take k).flatten ++ x := by
  rw [List.take_add_one, h]; simp
set_option maxRecDepth 100000 in
set_option maxHeartbeats 2000000 in
theorem flat_ev {B : Nat} {w : World} {ad : Nat → Addr} {v : Value} {vs : List Value} {css : List (List Ch)} (hv : w.ownsRow B 26 1 v css.length vs) (hL : EL w ad vs css) (hl : css.length ≤ 100000) (hsum : css.flatten.length ≤ 100000) :
    Calls Tryd.prog 53 #[v] w (FlatPost ad w css.flatten) := by
  obtain ⟨i0, hi0, hz0, hs0, hb0⟩ := info_parts infoErr
  have HV := hide hv
  have HL_ := hide hL
  obtain ⟨A, c, rfl⟩ : ∃ A c, v = .slice A css.length c := by
    rcases row_form hv with ⟨rfl, h0, _⟩ | ⟨g, cap, rfl, _⟩
    · exact ⟨none, 0, by rw [h0]⟩
    · exact ⟨_, _, rfl⟩
  clear hv hL
  have n0 : (0 : Int) ≤ (css.length : Int) := by omega
  go_enter Tryd.func53, Tryd.ntmps53
  go_wp2_with fail
  go_loopw [2, 10] (fun s2 s10 wr => ∃ k : Nat, k ≤ css.length ∧ s10 = .int .i64 k ∧ ∃ os, wr.ownsRow w.heap.size 26 1 s2 (css.take k).flatten.length os ∧ HL w ad os (css.take k).flatten ∧ Fr [] w wr) (fun _ s10 _ => css.length - (intOf s10).toNat)
  case atStart => exact ⟨0, by omega, rfl, [], World.ownsRow_nil _ _ _ _, HL.nil, Fr.refl _ _⟩
  case round =>
    obtain ⟨k, hk, rfl, os, hrow, hos, hf⟩ := hrel
    by_cases hk1 : k < css.length
    · obtain ⟨v, hv⟩ : ∃ v, vs[k]? = some v := ⟨_, List.getElem?_eq_getElem (by rw [HL_.out.1]; exact hk1)⟩
      obtain ⟨cs, hcs⟩ : ∃ cs, css[k]? = some cs := ⟨_, List.getElem?_eq_getElem hk1⟩
      have hc := HL_.out.2 k v cs hv hcs
      have hadd := flatten_take_add hcs
      have hb1 := flatten_take_le css (k + 1)
      rw [hadd, List.length_append] at hb1
      rcases row_form HV.out with ⟨_, h0, _⟩ | ⟨g, cap, e, hBg, hlg, hcap, hmx⟩
      · omega
      · injection e with e1 e2 e3
        subst e1; subst e3
        have k0 := row_cell HV.out (i := k) hv
        have k1 : wr.cell? ⟨g, k, none⟩ = some v := (hf.cell (p := ⟨g, k, none⟩) hlg (by simp)).trans k0
        have lg : g < wr.heap.size := Nat.lt_of_lt_of_le hlg hf.size
        have i1 : (0 : Int) ≤ (k : Int) := by omega
        have i2 : (k : Int) < (css.length : Int) := by omega
        have hsz := hf.size
        have HR := hide (And.intro hrow (And.intro hf (And.intro hos hadd)))
        generalize hm : (css.take k).flatten.length = m at hrow HR hb1
        have Hm := hide hm
        clear hm hrow hf k0 hv hcs hos hadd
        have hn := eql_nil_false
        have nB := notSevB
        have nE := notSevE
        have iS := isSevS
        rcases hc with ⟨rfl, rfl⟩ | ⟨c, rfl, hc⟩ | ⟨hlen, gs, rfl, hS⟩
        · go_wp2_with fail
          obtain ⟨hrow, hf, hos, hadd⟩ := HR.out
          go_roundw
          case rel =>
            refine ⟨k + 1, by omega, by go_num, os, ?_⟩
            rw [hadd, List.append_nil, Hm.out]
            exact ⟨hrow, hos, hf⟩
          case measure => simp [intOf]; omega
        · have Hc := hide hc
          rcases hc.form with ⟨b, rfl⟩ | ⟨a, rfl⟩
          all_goals
            clear hc
            go_wp2_with (first | at_builtin; refine wpList_append_lies _ rfl _ _ _ rfl w.heap.size 26 i0 _ 1 16 Tryd.underlying86 hi0 hz0 hs0 hb0 rfl (by omega) (u2) (m) (os) rfl ((HR.out.1.alloc _)) ⟨wr.heap.size, 0, none⟩ 1 1 [bv b] rfl rfl (World.news_of_block (cs := #[bv b]) (t := 26) (fr := (0, 0)) (Blk.new_at _ _ _ _ (by simp))) (by simp [Value.oneCell']) (by omega) (by unfold maxLen; omega) (by omega) (by simp; omega) (wr.heap.size + 1) (by simp) ?_; intro ag0 ac0 aw0 aown0 agrow0 aat0 alt0 | at_builtin; refine wpList_append_lies _ rfl _ _ _ rfl w.heap.size 26 i0 _ 1 16 Tryd.underlying86 hi0 hz0 hs0 hb0 rfl (by omega) (u2) (m) (os) rfl ((HR.out.1.alloc _)) ⟨wr.heap.size, 0, none⟩ 1 1 [sv a] rfl rfl (World.news_of_block (cs := #[sv a]) (t := 26) (fr := (0, 0)) (Blk.new_at _ _ _ _ (by simp))) (by simp [Value.oneCell']) (by omega) (by unfold maxLen; omega) (by omega) (by simp; omega) (wr.heap.size + 1) (by simp) ?_; intro ag0 ac0 aw0 aown0 agrow0 aat0 alt0)
            have hfin := hide (And.intro aown0 (And.intro agrow0 aat0))
            obtain ⟨hrow, hf, hos, hadd⟩ := HR.out
            have hv0 : ∀ x, u2.ownBlock = some x → w.heap.size ≤ x := fun x hx => (row_lt hrow hx).2
            have hf2 := (hf.alloc _).grown hfin.out.2.1 fun x hx => .inr (hv0 x hx)
            have hf1 : Fr u2.ownBlock.toList wr aw0 := ((Fr.refl _ wr).alloc _).grown hfin.out.2.1 fun x hx => .inl (by simp [hx])
            go_roundw
            case rel =>
              have q := hos.app (HL.one Hc.out)
              rw [← hadd] at q
              refine ⟨k + 1, by omega, by go_num, _, ?_, q, hf2⟩
              rw [hadd, List.length_append, Hm.out]
              exact hfin.out.1
            case measure => simp [intOf]; omega
        · have HS_ := hide hS
          have HU := hide (sunwrap_calls hS HR.out.2.1 (by omega) (by omega))
          clear hS
          go_wp2_with fail
          refine HU.out.mono ?_
          rintro e w1 ⟨g', c', us, rfl, hr, hul, huc, hf1⟩
          have H1 := hide (And.intro hf1 (And.intro hul huc))
          have HF := hide (flat_ch hr ⟨hul, fun i v c hv hc => (huc i v c hv hc).fr0 (HR.out.2.1.trans hf1)⟩ (by omega))
          clear hr hul huc hf1 HU
          go_wp2_with fail
          refine HF.out.mono ?_
          rintro e w2 ⟨v2, rfl, hr2, hf2⟩
          rcases row_form hr2 with ⟨_, h0, _⟩ | ⟨g2, cap2, rfl, hB2, hlg2, hcap2, hmx2⟩
          · omega
          have hrow2 := hide (row_fr HR.out.1 (H1.out.1.trans hf2) (by simp))
          have hN := hide (row_newsE hr2)
          have hfw : Fr [] w w2 := HR.out.2.1.trans (H1.out.1.trans hf2)
          have hszw := hfw.size
          have Hfw := hide hfw
          have hone : ∀ v ∈ us, v.oneCell' = true := HL.ones (w := w) (ad := ad) (cs := cs) ⟨H1.out.2.1, H1.out.2.2⟩
          have Hone := hide hone
          have Hul := hide H1.out.2.1
          clear hr2 hf2 hfw hone
          go_wp2_with (at_builtin; refine wpList_append_lies _ rfl _ _ _ rfl w.heap.size 26 i0 _ 1 16 Tryd.underlying86 hi0 hz0 hs0 hb0 rfl (by omega) (u2) (m) (os) rfl (hrow2.out) (⟨g2, 0, none⟩) (cs.length) (cap2) (us) rfl (by have := Hul.out; omega) (hN.out) (Hone.out) (by omega) (by unfold maxLen; omega) (by omega) (by first | omega | (simp; done) | (simp; omega)) (w2.heap.size) (by simp) ?_; intro ag0 ac0 aw0 aown0 agrow0 aat0 alt0)
          have hfin := hide (And.intro aown0 (And.intro agrow0 aat0))
          obtain ⟨hrow, hf, hos, hadd⟩ := HR.out
          have hv0 : ∀ x, u2.ownBlock = some x → w.heap.size ≤ x := fun x hx => (row_lt hrow hx).2
          have hf3 := Hfw.out.grown hfin.out.2.1 fun x hx => .inr (hv0 x hx)
          go_roundw
          case rel =>
            refine ⟨k + 1, by omega, by go_num, os ++ us, ?_, ?_, hf3⟩
            · rw [hadd, List.length_append, Hm.out]
              exact hfin.out.1
            · rw [hadd]
              exact hos.app ⟨H1.out.2.1, H1.out.2.2⟩
          case measure => simp [intOf]; omega
    · have hkn : k = css.length := by omega
      subst hkn
      rw [List.take_length] at hrow hos
      have HR := hide (And.intro hrow (And.intro hos hf))
      clear hrow hf hos
      go_wp2_with fail
      go_ret
      exact ⟨_, os, rfl, HR.out.1, HR.out.2.1, HR.out.2.2⟩
end Go.Proofs.YtnncbmbepdkfnaaDoor

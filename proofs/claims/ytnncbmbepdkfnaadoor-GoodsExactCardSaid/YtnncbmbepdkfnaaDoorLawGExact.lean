/- GoodsExact: the walk of the law. -/
import Derived.Test.YtnncbmbepdkfnaaDoorExG0
import Derived.Deep.QuietTactic
import Derived.Deep.DeepCutAuto
namespace Go.Proofs.YtnncbmbepdkfnaaDoor
open Go.RowKit
theorem we_fr {w w' : World} {ad : Nat → Addr} {v : Value} {x : ByteArray} {cs : List Ch} (h : WE w ad v x cs) (hf : Fr [] w w') : WE w' ad v x cs := by
  obtain ⟨b, v0, rfl, hb, hv, hn⟩ := h
  exact ⟨b, v0, rfl, hb.fr0 hf, hv.fr0 hf, hn⟩
theorem row_slice {w : World} {B n size : Nat} {e : TypeId} {v : Value} {xs : List Value} (h : w.ownsRow B e size v n xs) : ∃ A c, v = .slice A n c := by
  rcases row_form h with ⟨rfl, rfl, _⟩ | ⟨g, cap, rfl, _⟩
  · exact ⟨_, _, rfl⟩
  · exact ⟨_, _, rfl⟩
set_option maxRecDepth 100000 in
set_option maxHeartbeats 16000000 in
theorem gexact_walk {w : World} {ad : Nat → Addr} (hs : Sents All18 w.heap.size w ad) {s : Sa} (hS : SaR w w.heap.size s) {A : Option Addr} {n c : Nat} {acts : List Ag} (hl : acts.length = n) (hn : n ≤ maxLen) (hok : ∀ a ∈ acts, AgOk w a) (hr : Reads w w.heap.size 4 A n (acts.flatMap encA)) (nm : ByteArray) (hnm : nm.size ≤ maxLen) :
    Calls Tryd.prog 5 #[s.val, .slice A n c, .string nm] w fun e w' => e = .returned (.bool true) ∧ Below w.heap.size w w' := by
  have hA := awakeG_calls (w := w.alloc (.cells #[.slice s.A1 s.n1 s.c1, .slice s.A2 s.n2 s.c2] 32)) k5all m7all ((hs.fr0 ((Fr.refl _ _).alloc _)).rebase)
  have HA := hide hA
  have H0 := hide (And.intro hs (And.intro hS (And.intro hl (And.intro hok hr))))
  have n2 : ∀ (W : World), (binOp .neq 26 .nilIface .nilIface).run Tryd.prog W = .ok (.bool false) W := fun W => by kernel_rfl
  have hv : s.val = .agg #[.slice s.A1 s.n1 s.c1, .slice s.A2 s.n2 s.c2] := rfl
  rw [hv]
  have hn63 : (n : Int) ≤ 9223372036854775807 := by unfold maxLen at hn; omega
  have hnm' : (nm.size : Int) ≤ 9223372036854775807 := by unfold maxLen at hnm; omega
  have hm1 := hS.m1.1
  have hm2 := hS.m2.1
  unfold maxLen at hm1 hm2
  clear hs hS hA hv hnm hl hn hok hr
  go_enter Tryd.func5, Tryd.ntmps5
  go_wp2_with fail
  refine HA.out.mono ?_
  rintro e w1 ⟨rfl, hf⟩
  have hf1 : Fr [] w w1 := ((Fr.refl _ _).alloc _).trans hf
  have hb1 := (Blk.new w 32 #[.slice s.A1 s.n1 s.c1, .slice s.A2 s.n2 s.c2]).fr0 hf
  have p0 := hb1.at_ 0 (v := .slice s.A1 s.n1 s.c1) rfl
  have p1 := hb1.at_ 1 (v := .slice s.A2 s.n2 s.c2) rfl
  have lp := hb1.lt
  have HBX := hide (fun W (hf : Fr [] w1 W) => hb1.fr0 hf)
  have HFW := hide (fun W (hf : Fr [] w1 W) => hf1.trans hf)
  clear hf hf1 hb1 HA
  by_cases h40 : 40 < s.n1
  · have h40' : (40 : Int) < (s.n1 : Int) := by omega
    go_wp2_with fail
    go_ret
    exact ⟨rfl, (HFW.out _ (Fr.refl _ _)).below (by simp) (Nat.le_refl _)⟩
  by_cases h41 : 40 < s.n2
  · have h40' : ¬ (40 : Int) < (s.n1 : Int) := by omega
    have h41' : (40 : Int) < (s.n2 : Int) := by omega
    go_wp2_with fail
    go_ret
    exact ⟨rfl, (HFW.out _ (Fr.refl _ _)).below (by simp) (Nat.le_refl _)⟩
  have h40' : ¬ (40 : Int) < (s.n1 : Int) := by omega
  have h41' : ¬ (40 : Int) < (s.n2 : Int) := by omega
  by_cases hbig : 100 < nm.size
  · have hbig' : (100 : Int) < (nm.size : Int) := by omega
    go_wp2_with fail
    go_ret
    exact ⟨rfl, (HFW.out _ (Fr.refl _ _)).below (by simp) (Nat.le_refl _)⟩
  have hbig' : ¬ (100 : Int) < (nm.size : Int) := by omega
  have HOK := hide (fun W (hf : Fr [] w1 W) => (H0.out.2.1.below (Fr.below (HFW.out W hf) (by simp) (Nat.le_refl _))).ok (by omega) (by omega))
  have HSE := hide (fun W (hf : Fr [] w1 W) => H0.out.1.fr0 (HFW.out W hf))
  have n40 : s.n1 ≤ 40 := by omega
  have m40 : s.n2 ≤ 40 := by omega
  clear hm1 hm2 h40 h41
  have HN := hide (newG_calls k5all ((HSE.out _ (Fr.refl _ _))) (HOK.out _ (Fr.refl _ _)))
  rw [show s.val = .agg #[.slice s.A1 s.n1 s.c1, .slice s.A2 s.n2 s.c2] from rfl] at HN
  go_wp2_with fail
  refine HN.out.mono ?_
  rintro e w2 ⟨pv, ev, rfl, hp, hf2⟩
  have hb2 := HBX.out _ hf2
  have H2 := hide (And.intro hp hf2)
  clear hp hf2 p0 p1 lp HN
  have p0 := hb2.at_ 0 (v := .slice s.A1 s.n1 s.c1) rfl
  have p1 := hb2.at_ 1 (v := .slice s.A2 s.n2 s.c2) rfl
  have lp := hb2.lt
  have HR := hide (rnew_calls (HOK.out _ H2.out.2) (HFW.out _ H2.out.2).size)
  rw [show s.val = .agg #[.slice s.A1 s.n1 s.c1, .slice s.A2 s.n2 s.c2] from rfl] at HR
  clear hb2
  go_wp2_with fail
  refine HR.out.mono ?_
  rintro e w3 ⟨uv, rfl, hrp, hf3⟩
  have hb3 := HBX.out _ (H2.out.2.trans hf3)
  clear p0 p1 lp HR
  have p0 := hb3.at_ 0 (v := .slice s.A1 s.n1 s.c1) rfl
  have p1 := hb3.at_ 1 (v := .slice s.A2 s.n2 s.c2) rfl
  have lp := hb3.lt
  have H3 := hide (And.intro hrp (And.intro hf3 (H2.out.2.trans hf3)))
  clear hb3 hrp hf3
  have hp := H2.out.1
  have hrp := H3.out.1
  unfold NewPost at hp
  unfold RNewPost at hrp
  rcases hp with ⟨hne, rfl, hwe⟩ | ⟨hnil, rfl, g, S, rfl, hg⟩
  · rcases hrp with ⟨-, rfl⟩ | ⟨hnil, -⟩
    rotate_left
    · exact absurd hnil hne
    obtain ⟨L, hL⟩ : ∃ L, L = (allFl s).length := ⟨_, rfl⟩
    have hL200 : L ≤ 200 := by rw [hL]; exact allFl_len2 n40 m40
    have HLv := hide (fun W (hf : Fr [] w3 W) => (we_fr hwe (H3.out.2.1.trans hf)).leaves (HSE.out _ (H3.out.2.2.trans hf)) (by rw [← hL]; omega) (sml_bd (allFl_sml n40 m40)))
    have HRc := hide (fun W (hf : Fr [] w3 W) => rcheck_calls (HOK.out _ (H3.out.2.2.trans hf)) (HFW.out _ (H3.out.2.2.trans hf)).size)
    rw [show s.val = .agg #[.slice s.A1 s.n1 s.c1, .slice s.A2 s.n2 s.c2] from rfl] at HRc
    unfold WalkPost at HLv
    simp only [List.length_map] at HLv
    simp only [← hL] at HLv HRc
    obtain ⟨b, v0, rfl, -, -, -⟩ := hwe
    have n1 : ∀ (W : World), (binOp .neq 26 (bv b) .nilIface).run Tryd.prog W = .ok (.bool true) W := fun W => run_neq_held_nil W 26 _ _ (by kernel_rfl)
    have HB3 := hide (fun W (hf : Fr [] w3 W) => HBX.out _ (H3.out.2.2.trans hf))
    have HW3 := hide (fun W (hf : Fr [] w3 W) => HFW.out _ (H3.out.2.2.trans hf))
    clear hL H2 H3 hne
    go_wp2_with fail
    have q01 : w3.drew.cell? ⟨w.heap.size, 0, none⟩ = some (.slice s.A1 s.n1 s.c1) ∧ w3.drew.cell? ⟨w.heap.size, 1, none⟩ = some (.slice s.A2 s.n2 s.c2) := ⟨p0, p1⟩
    go_region_held3 (fun w' => w'.cell? ⟨w.heap.size, 0, none⟩ = some (.slice s.A1 s.n1 s.c1) ∧ w'.cell? ⟨w.heap.size, 1, none⟩ = some (.slice s.A2 s.n2 s.c2)) (first | exact q01 | with_reducible assumption)
      (first
        | (go_at_call 20; with_reducible refine (HLv.out _ (show Fr [] w3 _ by (repeat (first | exact Fr.refl _ _ | apply Fr.drew | apply Fr.drewN | apply Fr.alloc | (refine Fr.setCell ?_ (by first | (left; simp [Value.ownBlock]; done) | (right; simp; omega) | (right; simp; done)) _))))).mono ?_; rintro e y1 ⟨v1, rfl, hr1, hf⟩; obtain ⟨Av, cv, rfl⟩ := row_slice hr1; have Y1 := hide ((show Fr [] w3 _ by (repeat (first | exact Fr.refl _ _ | apply Fr.drew | apply Fr.drewN | apply Fr.alloc | (refine Fr.setCell ?_ (by first | (left; simp [Value.ownBlock]; done) | (right; simp; omega) | (right; simp; done)) _)))).trans hf); have K1 := And.intro ((HB3.out _ Y1.out).at_ 0 (v := .slice s.A1 s.n1 s.c1) rfl) ((HB3.out _ Y1.out).at_ 1 (v := .slice s.A2 s.n2 s.c2) rfl); clear hf hr1)
        | (go_at_call 21; with_reducible refine (HRc.out _ Y1.out).mono ?_; rintro e y2 ⟨v2, rfl, hr2, hf⟩; obtain ⟨Av2, cv2, rfl⟩ := row_slice hr2; have Y2 := hide (Y1.out.trans hf); have K2 := And.intro ((HB3.out _ Y2.out).at_ 0 (v := .slice s.A1 s.n1 s.c1) rfl) ((HB3.out _ Y2.out).at_ 1 (v := .slice s.A2 s.n2 s.c2) rfl); clear hf hr2))
    go_wp2_with fail
    go_ret
    exact ⟨rfl, (HW3.out _ Y2.out).below (by simp) (Nat.le_refl _)⟩
  · rcases hrp with ⟨hne, -⟩ | ⟨-, u, T, rfl, hrg⟩
    · exact absurd hnil hne
    have hrg1 : RG w1.heap.size w3 u s (s.rs.map (·.val)) 0 T := hrg.up H2.out.2.size
    have hgr1 := hg.fr0 H3.out.2.1
    have hrl : (s.rs.map (·.val)).length = s.n2 := by rw [List.length_map]; exact H0.out.2.1.l2
    have hX : LX w1 w3 g u s S 0 := ⟨_, 0, T, hrl, by omega, by omega, hgr1, hrg1, fun b hb hm => by have := (hg.ge b hm).2; have := (hrg.ge b hb).1; omega, H3.out.2.2⟩
    have HX := hide hX
    clear hX hrg hrg1 hgr1 hg hrl H2 H3 p0 p1 lp hnil
    go_wp2_with fail
    go_loopw [10] (fun s10 wr => ∃ i : Nat, i ≤ n ∧ i ≤ 100 ∧ s10 = .int .i64 i ∧ LX w1 wr g u s S i) (fun s10 _ => n - (intOf s10).toNat)
    case atStart => exact ⟨0, by omega, by omega, rfl, HX.out⟩
    case round =>
      clear HX
      obtain ⟨i, hi, hi100, rfl, hX⟩ := hrel
      have j0 : (0 : Int) ≤ (i : Int) := by omega
      by_cases hin : i < n ∧ i < 100
      · obtain ⟨hin, hin100⟩ := hin
        have j1 : (i : Int) < (n : Int) := by omega
        have j2 : (i : Int) < 100 := by omega
        obtain ⟨a, ha⟩ : ∃ a, acts[i]? = some a := ⟨_, List.getElem?_eq_getElem (by rw [H0.out.2.2.1]; exact hin)⟩
        have hao := H0.out.2.2.2.1 a (List.mem_of_getElem? ha)
        obtain ⟨LA, ln, lc, ls, hal, hll, hlm, hlr⟩ := hao
        obtain ⟨b, off, hA', hb, hcl⟩ := H0.out.2.2.2.2.at_ encA_len ha H0.out.2.2.1
        have hfw := HFW.out _ hX.choose_spec.choose_spec.choose_spec.2.2.2.2.2.2
        have a0 := (hfw.cell (p := ⟨b, off + (i * 4 + 0), none⟩) hb (by simp)).trans (hcl 0 (.int .i64 a.k) rfl)
        have a1 := (hfw.cell (p := ⟨b, off + (i * 4 + 1), none⟩) hb (by simp)).trans (hcl 1 (.int .i64 a.i) rfl)
        have a2 := (hfw.cell (p := ⟨b, off + (i * 4 + 2), none⟩) hb (by simp)).trans (hcl 2 (.int .i64 a.n) rfl)
        have a3 := (hfw.cell (p := ⟨b, off + (i * 4 + 3), none⟩) hb (by simp)).trans (hcl 3 a.l rfl)
        rw [hal] at a3
        rw [Nat.add_zero] at a0
        rw [← Nat.add_assoc] at a1 a2 a3
        have lb := Nat.lt_of_lt_of_le hb hfw.size
        have Hll := hide (And.intro hll hlr)
        have hlm' : (ln : Int) ≤ 9223372036854775807 := by unfold maxLen at hlm; omega
        have HXi := hide hX
        clear hX hfw hcl ha hal hll hlr hlm
        subst hA'
        by_cases hl40 : 40 < ln
        · have hl40' : (40 : Int) < (ln : Int) := by omega
          go_wp2_with fail
          go_ret
          exact ⟨rfl, ((HFW.out _ HXi.out.choose_spec.choose_spec.choose_spec.2.2.2.2.2.2).alloc _).below (by simp) (Nat.le_refl _)⟩
        have hl40' : ¬ (40 : Int) < (ln : Int) := by omega
        go_upto_block 2 with (fail)
        have hact := Blk.new wr 38 #[.int .i64 a.k, .int .i64 a.i, .int .i64 a.n, .slice LA ln lc]
        have hXa := HXi.out.fr0 ((Fr.refl _ _).alloc (.cells #[.int .i64 a.k, .int .i64 a.i, .int .i64 a.n, .slice LA ln lc] 38))
        have hba : ∀ vs ch T, GR w1.heap.size wr g (s.rs.map (·.name)) vs ch S → RG w1.heap.size wr u s vs ch T → wr.heap.size ∉ S ∧ wr.heap.size ∉ T := fun vs ch T h1 h2 => ⟨fun hm => by have := (h1.ge _ hm).2; omega, fun hm => by have := (h2.ge _ hm).2; omega⟩
        generalize hbae : wr.heap.size = ba at *
        generalize wr.alloc (.cells #[.int .i64 a.k, .int .i64 a.i, .int .i64 a.n, .slice LA ln lc] 38) = wa at *
        have HAc := hide (And.intro hact hXa)
        clear a0 a1 a2 a3 lb hact hXa hba hbae
        go_cut [12, 13, 14, 15, 16, 17, 18, 19, 20, 21] (fun _ _ _ _ _ _ _ _ _ _ w' => LX w1 w' g u s S (i + 1) ∧ Blk w' ba 38 #[.int .i64 a.k, .int .i64 a.i, .int .i64 a.n, .slice LA ln lc])
        case first =>
          obtain ⟨hact, vs, ch, T, hvl, hc0, hc1, hG, hR, hd, hf⟩ := HAc.out
          have hl1 : vs.length ≤ 1000 := by omega
          have hc2 : ch ≤ 100000 := by omega
          have c0 := hact.at_ 0 (v := .int .i64 a.k) rfl
          have c1 := hact.at_ 1 (v := .int .i64 a.i) rfl
          have c2 := hact.at_ 2 (v := .int .i64 a.n) rfl
          have c3 := hact.at_ 3 (v := .slice LA ln lc) rfl
          have lc_ := hact.lt
          have HS := hide (And.intro hact (And.intro hG (And.intro hR (And.intro hd (And.intro hf (And.intro hvl (And.intro hc0 hc1)))))))
          clear hact hG hR hd hf
          by_cases hk1 : a.k = 1
          · have e1 : (a.k == 1) = true := by simpa using hk1
            clear hk1
            by_cases hin : 0 ≤ a.i ∧ a.i < (s.n2 : Int)
            · obtain ⟨k, hk⟩ := Int.eq_ofNat_of_zero_le hin.1
              obtain ⟨x, hx⟩ : ∃ x, vs[k]? = some x := ⟨_, List.getElem?_eq_getElem (by omega)⟩
              have HSt := hide (set_in HS.out.2.1 hl1 hx a.n hc0 (by omega))
              rw [← hk] at HSt
              have Hx := hide hx
              have Hk := hide hk
              clear hx hk hin
              go_wp2_with fail
              refine HSt.out.mono ?_
              rintro e w4 ⟨rfl, hg4, hf4⟩
              have hr4 := HS.out.2.2.1.fr hf4 HS.out.2.2.2.1
              have ha4 := HS.out.1.fr hf4 (HS.out.2.1.notin HS.out.1)
              have hf04 := HS.out.2.1.step HS.out.2.2.2.2.1 (Nat.le_refl _) hf4
              have HRs := hide (rset_in hr4 (by exact hf04.size) hl1 Hx.out a.n hc0 (by omega))
              rw [← Hk.out] at HRs
              have d1 := ha4.at_ 1 (v := .int .i64 a.i) rfl
              have d2 := ha4.at_ 2 (v := .int .i64 a.n) rfl
              have dl := ha4.lt
              have H4 := hide (And.intro hg4 (And.intro hf4 (And.intro hr4 ha4)))
              clear hg4 hf4 hr4 ha4 hf04 HSt c0 c1 c2 c3 lc_
              go_wp2_with fail
              refine HRs.out.mono ?_
              rintro e w5 ⟨rfl, T', hr5, hst⟩
              have hb5 := both HS.out.2.1 HS.out.2.2.1 HS.out.2.2.2.1 HS.out.2.2.2.2.1 H4.out.1 H4.out.2.1 hr5 hst
              have ha5 := H4.out.2.2.2.fr hst.1 (H4.out.2.2.1.notin H4.out.2.2.2)
              have H5 := hide (And.intro (show LX w1 w5 g u s S (i + 1) from ⟨_, _, T', by rw [List.length_set]; exact HS.out.2.2.2.2.2.1, by omega, by omega, hb5.1, hr5, hb5.2.1, hb5.2.2⟩) ha5)
              have HNu := hide (num_nil (HSE.out _ hb5.2.2))
              clear hb5 ha5 hr5 hst HRs d1 d2 dl
              go_wp2_with fail
              refine HNu.out.mono ?_
              rintro e w6 ⟨rfl, hf6⟩
              have H6 := hide (And.intro (H5.out.1.fr0 hf6) (H5.out.2.fr0 hf6))
              clear hf6
              go_wp2_with fail
              go_meet
              exact H6.out
            · have hout : a.i < 0 ∨ (vs.length : Int) ≤ a.i := by omega
              have HSt := hide (set_out m7all (HSE.out _ HS.out.2.2.2.2.1) HS.out.2.1 hl1 hout a.n)
              go_wp2_with fail
              refine HSt.out.mono ?_
              rintro e w4 ⟨x4, rfl, hx4, hf4⟩
              have HRs := hide (rset_out (HS.out.2.2.1.fr0 hf4) hl1 hout a.n)
              have ha4 := HS.out.1.fr0 hf4
              have d1 := ha4.at_ 1 (v := .int .i64 a.i) rfl
              have d2 := ha4.at_ 2 (v := .int .i64 a.n) rfl
              have dl := ha4.lt
              have H4 := hide (And.intro (show LX w1 w4 g u s S (i + 1) from ⟨vs, ch, T, HS.out.2.2.2.2.2.1, hc0, by omega, HS.out.2.1.fr0 hf4, HS.out.2.2.1.fr0 hf4, HS.out.2.2.2.1, HS.out.2.2.2.2.1.trans hf4⟩) ha4)
              have HNu := hide (num_hc (HSE.out _ (HS.out.2.2.2.2.1.trans hf4)) hx4)
              simp only [show ((7 : Nat) : Int) = 7 from rfl] at HNu
              clear hx4 hf4 ha4 HSt c0 c1 c2 c3 lc_
              go_wp2_with fail
              refine HRs.out.mono ?_
              rintro e w' ⟨rfl, rfl⟩
              go_wp2_with fail
              refine HNu.out.mono ?_
              rintro e w6 ⟨rfl, hf6⟩
              have H6 := hide (And.intro (H4.out.1.fr0 hf6) (H4.out.2.fr0 hf6))
              clear hf6
              go_wp2_with fail
              go_meet
              exact H6.out
          · have e1 : (a.k == 1) = false := by simpa using hk1
            by_cases hk2 : a.k = 2
            · have e2 : (a.k == 2) = true := by simpa using hk2
              clear hk1 hk2
              by_cases hin : 0 ≤ a.i ∧ a.i < (s.n2 : Int)
              · obtain ⟨k, hk⟩ := Int.eq_ofNat_of_zero_le hin.1
                obtain ⟨x, hx⟩ : ∃ x, vs[k]? = some x := ⟨_, List.getElem?_eq_getElem (by omega)⟩
                have HGt := hide (rget_in HS.out.2.2.1 hl1 hx)
                have HAd := hide (add_in HS.out.2.1 hl1 hx a.n hc0 (by omega))
                rw [← hk] at HGt HAd
                have Hx := hide hx
                have Hk := hide hk
                clear hx hk hin
                generalize hy : IntKind.i64.wrap (x + a.n) = y at *
                go_wp2_with fail
                refine HGt.out.mono ?_
                rintro e w' ⟨rfl, rfl⟩
                go_wp2_with fail
                refine HAd.out.mono ?_
                rintro e w4 ⟨rfl, hg4, hf4⟩
                have hr4 := HS.out.2.2.1.fr hf4 HS.out.2.2.2.1
                have ha4 := HS.out.1.fr hf4 (HS.out.2.1.notin HS.out.1)
                have hf04 := HS.out.2.1.step HS.out.2.2.2.2.1 (Nat.le_refl _) hf4
                have HRs := hide (rset_in hr4 (by exact hf04.size) hl1 Hx.out y hc0 (by omega))
                rw [← Hk.out] at HRs
                have d1 := ha4.at_ 1 (v := .int .i64 a.i) rfl
                have d2 := ha4.at_ 2 (v := .int .i64 a.n) rfl
                have dl := ha4.lt
                have H4 := hide (And.intro hg4 (And.intro hf4 (And.intro hr4 ha4)))
                clear hg4 hf4 hr4 ha4 hf04 HGt HAd c0 c1 c2 c3 lc_
                go_wp2_with fail
                refine HRs.out.mono ?_
                rintro e w5 ⟨rfl, T', hr5, hst⟩
                have hb5 := both HS.out.2.1 HS.out.2.2.1 HS.out.2.2.2.1 HS.out.2.2.2.2.1 H4.out.1 H4.out.2.1 hr5 hst
                have ha5 := H4.out.2.2.2.fr hst.1 (H4.out.2.2.1.notin H4.out.2.2.2)
                have H5 := hide (And.intro (show LX w1 w5 g u s S (i + 1) from ⟨_, _, T', by rw [List.length_set]; exact HS.out.2.2.2.2.2.1, by omega, by omega, hb5.1, hr5, hb5.2.1, hb5.2.2⟩) ha5)
                have HNu := hide (num_nil (HSE.out _ hb5.2.2))
                clear hb5 ha5 hr5 hst HRs d1 d2 dl
                go_wp2_with fail
                refine HNu.out.mono ?_
                rintro e w6 ⟨rfl, hf6⟩
                have ha6 := H5.out.2.fr0 hf6
                have d2 := ha6.at_ 2 (v := .int .i64 a.n) rfl
                have dl := ha6.lt
                have H6 := hide (And.intro (H5.out.1.fr0 hf6) ha6)
                clear hf6 ha6
                go_wp2_with fail
                go_meet
                exact H6.out
              · have hout : a.i < 0 ∨ (vs.length : Int) ≤ a.i := by omega
                have HGt := hide (rget_out HS.out.2.2.1 hl1 hout)
                have HAd := hide (add_out m7all (HSE.out _ HS.out.2.2.2.2.1) HS.out.2.1 hl1 hout a.n)
                generalize hy : IntKind.i64.wrap (0 + a.n) = y at *
                have hy2 : IntKind.i64.wrap a.n = y := by rw [← hy, Int.zero_add]
                go_wp2_with fail
                refine HGt.out.mono ?_
                rintro e w' ⟨rfl, rfl⟩
                go_wp2_with fail
                refine HAd.out.mono ?_
                rintro e w4 ⟨x4, rfl, hx4, hf4⟩
                have HRs := hide (rset_out (HS.out.2.2.1.fr0 hf4) hl1 hout y)
                have ha4 := HS.out.1.fr0 hf4
                have d1 := ha4.at_ 1 (v := .int .i64 a.i) rfl
                have d2 := ha4.at_ 2 (v := .int .i64 a.n) rfl
                have dl := ha4.lt
                have H4 := hide (And.intro (show LX w1 w4 g u s S (i + 1) from ⟨vs, ch, T, HS.out.2.2.2.2.2.1, hc0, by omega, HS.out.2.1.fr0 hf4, HS.out.2.2.1.fr0 hf4, HS.out.2.2.2.1, HS.out.2.2.2.2.1.trans hf4⟩) ha4)
                have HNu := hide (num_hc (HSE.out _ (HS.out.2.2.2.2.1.trans hf4)) hx4)
                simp only [show ((7 : Nat) : Int) = 7 from rfl] at HNu
                clear hx4 hf4 ha4 HGt HAd c0 c1 c2 c3 lc_
                go_wp2_with fail
                refine HRs.out.mono ?_
                rintro e w' ⟨rfl, rfl⟩
                go_wp2_with fail
                refine HNu.out.mono ?_
                rintro e w6 ⟨rfl, hf6⟩
                have H6 := hide (And.intro (H4.out.1.fr0 hf6) (H4.out.2.fr0 hf6))
                clear hf6 d1 d2 dl
                go_wp2_with fail
                go_meet
                exact H6.out
            · have e2 : (a.k == 2) = false := by simpa using hk2
              clear hk1 hk2
              have HK3 := hide (fun W (ha : Blk W ba 38 #[.int .i64 a.k, .int .i64 a.i, .int .i64 a.n, .slice LA ln lc]) => ha.at_ 3 (v := .slice LA ln lc) rfl)
              have q3 : wa.drew.cell? ⟨ba, 3, none⟩ = some (.slice LA ln lc) := c3
              by_cases hln : ln = vs.length
              · have hlsl : ls.length = vs.length := by rw [Hll.out.1]; exact hln
                have hfrW : ∀ W, Fr S wa W → Fr [] w W := fun W hW => HFW.out W (HS.out.2.1.step HS.out.2.2.2.2.1 (Nat.le_refl _) hW)
                have HPt := hide (fun (X : World) (hX : Fr [] wa X) => put_in (xs := ls) (A := LA) (c := lc) (HS.out.2.1.fr0 hX) hl1 hlsl hc0 (by omega) (fun W hW j y hy => by
                  obtain ⟨b', off', e', hb', hc'⟩ := reads_at Hll.out.2 Hll.out.1 hy
                  have hfW := hfrW W ((hX.any S).step hW (fun x hx => .inl hx))
                  exact ⟨b', off', e', Nat.lt_of_lt_of_le hb' hfW.size, (hfW.cell (p := ⟨b', off' + j, none⟩) hb' (by simp)).trans hc'⟩))
                rw [← hln] at HPt
                have hdl := dif_le ls vs ln
                have HRp := hide (fun (X : World) (hX : Fr S wa X) => rput_in (xs := ls) (A := LA) (c := lc) (HS.out.2.2.1.fr hX HS.out.2.2.2.1) (by have := (HS.out.2.1.step HS.out.2.2.2.2.1 (Nat.le_refl _) hX).size; exact this) hl1 hlsl hc0 (by omega) (fun W hW j y hy => by
                  obtain ⟨b', off', e', hb', hc'⟩ := reads_at Hll.out.2 Hll.out.1 hy
                  have hfX := HS.out.2.1.step HS.out.2.2.2.2.1 (Nat.le_refl _) hX
                  have hfX1 := hfX.step hW (fun b hb => .inr (HS.out.2.2.1.ge b hb).1)
                  have hfW := HFW.out W hfX1
                  have hb1 : b' < w1.heap.size := Nat.lt_of_lt_of_le hb' (HFW.out _ (Fr.refl _ _)).size
                  exact ⟨b', off', e', Nat.lt_of_lt_of_le hb1 hfX.size, fun hm => by have := (HS.out.2.2.1.ge _ hm).1; omega, (hfW.cell (p := ⟨b', off' + j, none⟩) hb' (by simp)).trans hc'⟩))
                rw [← hln] at HRp
                have HRp2 : Hid (∀ X, Fr S wa X → Calls Tryd.prog 25 #[gp u, .slice LA ln lc] X fun e w' => e = .returned (.int .i64 0) ∧ ∃ T', RG w1.heap.size w' u s ls (ch + (dif ls vs ln : Nat)) T' ∧ Stp T T' X w') := HRp
                have HT1 : Hid (∀ y2 (_ : Fr S wa y2) (_ : Blk y2 ba 38 #[.int .i64 a.k, .int .i64 a.i, .int .i64 a.n, .slice LA ln lc]), ba ∉ T) := hide fun y2 h hA2 => (HS.out.2.2.1.fr h HS.out.2.2.2.1).notin hA2
                clear c0 c1 c2 hln HRp
                go_wp2_with fail
                go_region_held3 (fun w' => w'.cell? ⟨ba, 3, none⟩ = some (.slice LA ln lc)) (first | exact q3 | with_reducible assumption)
                  (first
                    | (go_at_call 15; with_reducible refine (HPt.out _ (show Fr [] wa _ by (repeat (first | exact Fr.refl _ _ | apply Fr.drew | apply Fr.drewN | apply Fr.alloc | (refine Fr.setCell ?_ (by first | (left; simp [Value.ownBlock]; done) | (right; simp; omega) | (right; simp; done)) _))))).mono ?_; rintro e y1 ⟨rfl, hg1, hf1⟩; have Y1 := hide (And.intro hg1 (((show Fr [] wa _ by (repeat (first | exact Fr.refl _ _ | apply Fr.drew | apply Fr.drewN | apply Fr.alloc | (refine Fr.setCell ?_ (by first | (left; simp [Value.ownBlock]; done) | (right; simp; omega) | (right; simp; done)) _))) : Fr [] wa _).any S).step hf1 (fun x hx => .inl hx))); have HA1 := hide (HS.out.1.fr Y1.out.2 (HS.out.2.1.notin HS.out.1)); have K1 := HK3.out _ HA1.out; have HNu := hide (num_nil (HSE.out _ (HS.out.2.1.step HS.out.2.2.2.2.1 (Nat.le_refl _) Y1.out.2))); clear hg1 hf1)
                    | (go_at_call 23; with_reducible refine HNu.out.mono ?_; rintro e y2 ⟨rfl, hf2⟩; have Y2 := hide (And.intro (Y1.out.1.fr0 hf2) (Y1.out.2.step hf2 (by simp))); have HA2 := hide (HA1.out.fr0 hf2); have K2 := HK3.out _ HA2.out; clear hf2)
                    | (go_at_call 25; with_reducible refine (HRp2.out _ Y2.out.2).mono ?_; rintro e y3 ⟨rfl, T', hr3, hst⟩; have HT3 := hide (And.intro hr3 hst); have HA3 : Hid (Blk y3 ba 38 #[.int .i64 a.k, .int .i64 a.i, .int .i64 a.n, .slice LA ln lc]) := hide (Blk.fr (HS.out.1.fr Y2.out.2 (HS.out.2.1.notin HS.out.1)) hst.fr (HT1.out _ Y2.out.2 (HS.out.1.fr Y2.out.2 (HS.out.2.1.notin HS.out.1)))); have K3 := HK3.out _ HA3.out; clear hr3 hst))
                go_wp2_with fail
                go_meet
                obtain ⟨hr3, hst⟩ := HT3.out
                have hb3 := both HS.out.2.1 HS.out.2.2.1 HS.out.2.2.2.1 HS.out.2.2.2.2.1 Y2.out.1 Y2.out.2 hr3 hst
                have hl40'' : ln ≤ 40 := by omega
                exact ⟨⟨ls, _, _, hlsl.trans HS.out.2.2.2.2.2.1, by omega, by omega, hb3.1, hr3, hb3.2.1, hb3.2.2⟩, HA3.out⟩
              · have HPt := hide (fun (X : World) (hX : Fr [] wa X) => put_bad (k5all.m1) (HSE.out _ (HS.out.2.2.2.2.1.trans hX)) (HS.out.2.1.fr0 hX) hl1 (A := LA) (c := lc) hln (by omega))
                have HRp := hide (fun (X : World) (hX : Fr [] wa X) => rput_bad (HS.out.2.2.1.fr0 hX) hl1 (A := LA) (c := lc) hln (by omega))
                clear c0 c1 c2
                go_wp2_with fail
                go_region_held3 (fun w' => w'.cell? ⟨ba, 3, none⟩ = some (.slice LA ln lc)) (first | exact q3 | with_reducible assumption)
                  (first
                    | (go_at_call 15; with_reducible refine (HPt.out _ (show Fr [] wa _ by (repeat (first | exact Fr.refl _ _ | apply Fr.drew | apply Fr.drewN | apply Fr.alloc | (refine Fr.setCell ?_ (by first | (left; simp [Value.ownBlock]; done) | (right; simp; omega) | (right; simp; done)) _))))).mono ?_; rintro e y1 ⟨x4, rfl, hx4, hf1⟩; have Y1 := hide ((show Fr [] wa _ by (repeat (first | exact Fr.refl _ _ | apply Fr.drew | apply Fr.drewN | apply Fr.alloc | (refine Fr.setCell ?_ (by first | (left; simp [Value.ownBlock]; done) | (right; simp; omega) | (right; simp; done)) _))) : Fr [] wa _).trans hf1); have K1 := HK3.out _ (HS.out.1.fr0 Y1.out); have HNu := hide (num_hc (HSE.out _ (HS.out.2.2.2.2.1.trans Y1.out)) hx4); simp only [show ((1 : Nat) : Int) = 1 from rfl] at HNu; clear hx4 hf1)
                    | (go_at_call 23; with_reducible refine HNu.out.mono ?_; rintro e y2 ⟨rfl, hf2⟩; have Y2 := hide (Y1.out.trans hf2); have K2 := HK3.out _ (HS.out.1.fr0 Y2.out); clear hf2)
                    | (go_at_call 25; with_reducible refine (HRp.out _ Y2.out).mono ?_; rintro e y3 ⟨rfl, rfl⟩))
                go_wp2_with fail
                go_meet
                exact ⟨⟨vs, ch, T, HS.out.2.2.2.2.2.1, hc0, by omega, HS.out.2.1.fr0 Y2.out, HS.out.2.2.1.fr0 Y2.out, HS.out.2.2.2.1, HS.out.2.2.2.2.1.trans Y2.out⟩, HS.out.1.fr0 Y2.out⟩
        case rest =>
          clear HAc HXi
          obtain ⟨⟨vs, ch, T, hvl, hc0, hc1, hG, hR, hd, hf⟩, hact⟩ := hcut
          have hl1 : vs.length ≤ 1000 := by omega
          obtain ⟨AL, cL, r2, r3, ru, -⟩ := hR.cells
          have c1 := hact.at_ 1 (v := .int .i64 a.i) rfl
          have lc_ := hact.lt
          have HCh := hide (fun W (hf : Fr [] wc W) => changes_calls (hG.fr0 hf))
          have ways : (∃ (k : Nat) (x : Int), a.i = k ∧ vs[k]? = some x) ∨ (a.i < 0 ∨ (vs.length : Int) ≤ a.i) := by
            by_cases hin : 0 ≤ a.i ∧ a.i < (vs.length : Int)
            · obtain ⟨k, hk⟩ := Int.eq_ofNat_of_zero_le hin.1
              exact .inl ⟨k, _, hk, List.getElem?_eq_getElem (by omega)⟩
            · exact .inr (by omega)
          have HGt : Hid (∃ (x : Int) (bo : Bool), (Calls Tryd.prog 10 #[gp g, .int .i64 a.i] wc fun e w' => e = .returned (.tuple #[.int .i64 x, .bool bo]) ∧ wc = w') ∧ (Calls Tryd.prog 24 #[gp u, .int .i64 a.i] wc fun e w' => e = .returned (.tuple #[.int .i64 x, .bool bo]) ∧ wc = w')) := hide (by
            rcases ways with ⟨k, x, hk, hx⟩ | hout
            · rw [hk]
              exact ⟨x, true, get_in hG hl1 hx, rget_in hR hl1 hx⟩
            · exact ⟨0, false, get_out hG hl1 hout, rget_out hR hl1 hout⟩)
          have HXn := hide (show LX w1 wc g u s S (i + 1) from ⟨vs, ch, T, hvl, hc0, hc1, hG, hR, hd, hf⟩)
          obtain ⟨x, bo, hg1, hg2⟩ := HGt.out
          have HG1 := hide hg1
          have HG2 := hide hg2
          clear hG hR hd hf hact ways HGt hg1 hg2 r2
          go_wp2_with fail
          refine HG1.out.mono ?_
          rintro e w' ⟨rfl, rfl⟩
          go_wp2_with fail
          refine HG2.out.mono ?_
          rintro e w' ⟨rfl, rfl⟩
          go_wp2_with fail
          go_quiet ((go_at_call 12; exact Calls.quiet_of_same ((HCh.out _ ((Fr.refl _ _).drewN _)).mono fun _ _ h => ⟨h.1, h.2.symm⟩)))
          go_wp2_with fail
          go_roundw
          case rel => exact ⟨i + 1, by omega, by omega, by go_num, HXn.out.fr0 ((Fr.refl _ _).drewN _)⟩
          case measure => simp [intOf]; omega
      · obtain ⟨vs, ch, T, hvl, hc0, hc1, hG, hR, hd, hf⟩ := hX
        have hl1 : vs.length ≤ 1000 := by omega
        have HNm := hide (namedG_calls hG nm)
        have HRs := hide (fun W (hf' : Fr [] wr W) => rres_calls (c := s.c2) (cs := s.rs) (((HOK.out W (hf.trans hf')).r2).up (HFW.out W (hf.trans hf')).size) H0.out.2.1.l2 (by omega) s.A1 s.n1 s.c1 nm)
        simp only [isAt] at HNm HRs
        generalize ((findI (s.rs.map (·.name)) nm).getD 0 : Nat) = k1 at *
        generalize (findI (s.rs.map (·.name)) nm).isSome = i1 at *
        have HX := hide (fun W (hf' : Fr [] wr W) => And.intro (hG.fr0 hf') (And.intro (hR.fr0 hf') (hf.trans hf')))
        have p0 := (HBX.out _ hf).at_ 0 (v := .slice s.A1 s.n1 s.c1) rfl
        have p1 := (HBX.out _ hf).at_ 1 (v := .slice s.A2 s.n2 s.c2) rfl
        have lp := (HBX.out _ hf).lt
        have Hvl := hide hvl
        have wd : ¬ (i : Int) < (n : Int) ∨ ((i : Int) < (n : Int) ∧ ¬ (i : Int) < 100) := by omega
        clear hG hR hd hf hin hvl
        rcases wd with hw1 | ⟨hw1, hw2⟩
        all_goals
          go_wp2_with fail
          refine HNm.out.mono ?_
          rintro e w' ⟨rfl, rfl⟩
          go_wp2_with fail
          refine (HRs.out _ (Fr.refl _ _)).mono ?_
          rintro e w5 ⟨rfl, hf5⟩
          have H5 := hide hf5
          obtain ⟨AL, cL, r2, r3, ru, rrow⟩ := (HX.out _ hf5).2.1.cells
          have HL := hide (fun W (hf' : Fr [] w5 W) => lenG_calls ((HX.out _ (hf5.trans hf')).1))
          have HAl := hide (fun W (hf' : Fr [] w5 W) => all_calls2 ((HX.out _ (hf5.trans hf')).1) hl1)
          have HRow := hide (fun W (hf' : Fr [] w5 W) => row_fr rrow hf' (by simp))
          have HC5 := hide (fun W (hf' : Fr [] w5 W) => (hf'.cell (p := ⟨u, 2, none⟩) ru (by simp)).trans r2)
          have HF5 := hide (fun W (hf' : Fr [] w5 W) => HFW.out _ ((HX.out _ (hf5.trans hf')).2.2))
          have q2 : w5.drew.cell? ⟨u, 2, none⟩ = some (.slice AL vs.length cL) := r2
          clear hf5 rrow p0 p1 lp r3
          go_wp2_with fail
          go_region_held3 (fun w' => w'.cell? ⟨u, 2, none⟩ = some (.slice AL vs.length cL)) (first | exact q2 | with_reducible assumption)
            (first
              | (go_at_call 18; with_reducible refine (HL.out _ (show Fr [] w5 _ by (repeat (first | exact Fr.refl _ _ | apply Fr.drew | apply Fr.drewN | apply Fr.alloc | (refine Fr.setCell ?_ (by first | (left; simp [Value.ownBlock]; done) | (right; simp; omega) | (right; simp; done)) _))))).mono ?_; rintro e y0 ⟨rfl, rfl⟩)
              | (go_at_call 13; with_reducible refine (HAl.out _ (show Fr [] w5 _ by (repeat (first | exact Fr.refl _ _ | apply Fr.drew | apply Fr.drewN | apply Fr.alloc | (refine Fr.setCell ?_ (by first | (left; simp [Value.ownBlock]; done) | (right; simp; omega) | (right; simp; done)) _))))).mono ?_; rintro e y1 ⟨v1, rfl, hr1, hf⟩; have Y1 := hide (And.intro hr1 ((show Fr [] w5 _ by (repeat (first | exact Fr.refl _ _ | apply Fr.drew | apply Fr.drewN | apply Fr.alloc | (refine Fr.setCell ?_ (by first | (left; simp [Value.ownBlock]; done) | (right; simp; omega) | (right; simp; done)) _)))).trans hf)); have K1 := HC5.out _ Y1.out.2; clear hf hr1)
              | (go_at_call 16; with_reducible refine (same_calls (xs := vs) (ys := vs) Y1.out.1 (HRow.out _ Y1.out.2) (by omega) (by omega)).mono ?_; rw [decide_eq_true rfl]; rintro e y2 ⟨rfl, hf⟩; have Y2 := hide (Y1.out.2.trans hf); have K2 := HC5.out _ Y2.out; clear hf))
          go_wp2_with fail
          go_ret
          exact ⟨rfl, (HF5.out _ Y2.out).below (by simp) (Nat.le_refl _)⟩
end Go.Proofs.YtnncbmbepdkfnaaDoor

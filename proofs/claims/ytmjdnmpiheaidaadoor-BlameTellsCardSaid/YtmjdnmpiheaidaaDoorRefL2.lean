/- The reference's leaves of rows of twigs. -/
import Derived.Test.YtmjdnmpiheaidaaDoorRefL
import Derived.Test.YtmjdnmpiheaidaaDoorLawDeeper
namespace Go.Proofs.YtmjdnmpiheaidaaDoor
open Go.RowKit
theorem infoRLeaf : (Tryd.prog.info? 36).map (fun i => (i.zero, i.size, i.bytes)) = some (some (.agg #[.string ⟨#[]⟩, .int .i64 0]), 2, 24) := by kernel_rfl
theorem joinB_snoc (ws : List ByteArray) (s : ByteArray) (h : ws ≠ []) : joinB (ws ++ [s]) = (joinB ws ++ ⟨#[47]⟩) ++ s := by
  induction ws with
  | nil => exact absurd rfl h
  | cons a r ih =>
    rcases Classical.em (r = []) with rfl | hr
    · rw [List.cons_append, List.nil_append, joinB_cons _ _ (by simp), joinB_one, joinB_one, ByteArray.append_assoc]
    · rw [List.cons_append, joinB_cons _ _ (by simp), ih hr, joinB_cons _ _ hr]
      simp only [ByteArray.append_assoc]
theorem neq_str (a b : ByteArray) (W : World) : (binOp .neq 9 (.string a) (.string b)).run Tryd.prog W = .ok (.bool (decide (a ≠ b))) W := by
  have := ba_list a b
  by_cases h : a = b <;> simp [go_sem, h, this]
/-- where the row's loop stands -/
def LI (row : List Tw) (k : Nat) (s5 s6 : Value) : Prop :=
  (NoHit row k ∧ s5 = .string (joinB (whs (row.take k))) ∧ s6 = .int .i64 0) ∨
  (∃ (j : Nat) (t : Tw), k = j + 1 ∧ NoHit row j ∧ row[j]? = some t ∧ hitT t = true ∧ s5 = .string (joinB (whs (row.take j))) ∧ s6 = .int .i64 t.num)
theorem path_size {row : List Tw} (h12 : row.length ≤ 12) (h : ∀ t ∈ row, t.whr.size ≤ 100) (k : Nat) : ((joinB (whs (row.take k))).size : Int) ≤ 2000 := by
  rw [joinB_size]
  have h1 := plen_le (whs (row.take k)) (by
    intro s hs
    obtain ⟨t, ht, rfl⟩ := whs_mem hs
    exact h t (List.mem_of_mem_take ht))
  have h2 := whs_len (row.take k)
  rw [List.length_take] at h2
  omega
set_option maxRecDepth 100000 in
set_option maxHeartbeats 8000000 in
theorem rleaves_calls {w : World} {A : Option Addr} {n c : Nat} {l : List Rw} (hr : Reads w w.heap.size 1 A n (l.flatMap encR)) (hl : l.length = n) (hn : n ≤ 20) (hS : SmallR w l) :
    Calls Tryd.prog 11 #[.slice A n c] w fun e w' => ∃ v', e = .returned v' ∧ w'.ownsRow w.heap.size 36 2 v' (allC l).length (((allC l).map lf).flatMap encL) ∧ Fr [] w w' := by
  obtain ⟨i0, hi0, hz0, hs0, hb0⟩ := info_parts infoRLeaf
  have HR := hide (And.intro hr (And.intro hl hS))
  clear hr hl hS
  go_enter Tryd.func11, Tryd.ntmps11
  go_wp2_with fail
  go_loopw [3, 4] (fun s3 s4 wr => ∃ i : Nat, i ≤ n ∧ s4 = .int .i64 i ∧ wr.ownsRow w.heap.size 36 2 s3 (allC (l.take i)).length (((allC (l.take i)).map lf).flatMap encL) ∧ Fr [] w wr) (fun _ s4 _ => n - (intOf s4).toNat)
  case atStart => exact ⟨0, by omega, rfl, row_mk (Blk.new w _ _) (Nat.le_refl _) (Nat.le_refl _) (by simp [maxLen]) rfl rfl, (Fr.refl _ _).alloc _⟩
  case round =>
    obtain ⟨i, hi, rfl, hrow, hf⟩ := hrel
    have i0' : (0 : Int) ≤ (i : Int) := by omega
    have Hrow := hide (And.intro hrow hf)
    have hsz := hf.size
    by_cases hin : i < n
    · have i1' : (i : Int) < (n : Int) := by omega
      obtain ⟨x, hx⟩ : ∃ x, l[i]? = some x := ⟨l[i]'(by have := HR.out.2.1; omega), by simp⟩
      obtain ⟨b, off, rfl, hb, hcl⟩ := HR.out.1.at_ encR_len hx HR.out.2.1
      have a0 := (hf.cell (p := ⟨b, off + (i * 1 + 0), none⟩) hb (by simp)).trans (hcl 0 (.slice x.A x.n x.c) rfl)
      rw [Nat.mul_one, Nat.add_zero] at a0
      have lb := Nat.lt_of_lt_of_le hb hf.size
      obtain ⟨⟨xl, ⟨xm, xc0⟩, hxr⟩, x12, x100⟩ := HR.out.2.2 x (List.mem_of_getElem? hx)
      have Hx := hide (And.intro xl (And.intro (hxr.fr0 hf) x100))
      have Hsn := hide (allC_snoc hx)
      clear hcl hx xl hxr x100 hrow xm
      obtain ⟨xA, xn, xc, xL⟩ := x
      dsimp only at *
      go_wp2_with fail
      go_loopw [5, 6, 7, 8] (fun s5 s6 s7 s8 w2 => Fr [] wr w2 ∧ ∃ k : Nat, k ≤ xn ∧ s7 = .int .i64 k ∧ LI xL k s5 s6) (fun _ _ s7 _ _ => xn - (intOf s7).toNat)
      case atStart => exact ⟨Fr.refl _ _, 0, by omega, rfl, .inl ⟨NoHit.zero _, rfl, rfl⟩⟩
      case round =>
        obtain ⟨hf2, k, hk, rfl, hLI⟩ := hrel
        have k0 : (0 : Int) ≤ (k : Int) := by omega
        have Hf2 := hide hf2
        have a0' := (hf2.cell (p := ⟨b, off + i, none⟩) lb (by simp)).trans a0
        have lb2 := Nat.lt_of_lt_of_le lb hf2.size
        clear hf2
        rcases hLI with ⟨hno, rfl, rfl⟩ | ⟨j, t, hkj, hno, ht, hh, rfl, rfl⟩
        · have Hno := hide hno
          clear hno
          by_cases hkn : k < xn
          · have k1 : (k : Int) < (xn : Int) := by omega
            obtain ⟨t, ht⟩ : ∃ t, xL[k]? = some t := ⟨xL[k]'(by have := Hx.out.1; omega), by simp⟩
            obtain ⟨b2, off2, rfl, hb2, hcl⟩ := Hx.out.2.1.at_ encT_len ht Hx.out.1
            have c0 := (Hf2.out.cell (p := ⟨b2, off2 + (k * 3 + 0), none⟩) hb2 (by simp)).trans (hcl 0 (.int .i64 t.kind) rfl)
            have c1 := (Hf2.out.cell (p := ⟨b2, off2 + (k * 3 + 1), none⟩) hb2 (by simp)).trans (hcl 1 (.string t.whr) rfl)
            have c2 := (Hf2.out.cell (p := ⟨b2, off2 + (k * 3 + 2), none⟩) hb2 (by simp)).trans (hcl 2 (.int .i64 t.num) rfl)
            rw [Nat.add_zero] at c0
            rw [← Nat.add_assoc] at c1 c2
            have l2 := Nat.lt_of_lt_of_le hb2 Hf2.out.size
            have hps := path_size (row := xL) (by have := Hx.out.1; omega) Hx.out.2.2 k
            have hts : (t.whr.size : Int) ≤ 100 := by have := Hx.out.2.2 t (List.mem_of_getElem? ht); omega
            have Ht := hide ht
            clear hcl ht
            by_cases hk1 : t.kind = 1
            · have hsn := whs_snoc Ht.out hk1
              have hnh : hitT t = false := by simp [hitT, hk1]
              have Hnh := hide hnh
              have Hsn2 := hide hsn
              rw [hk1] at c0
              clear hnh hsn hk1
              have HPd : ∃ P, P = joinB (whs (xL.take k)) := ⟨_, rfl⟩
              obtain ⟨P, hPd⟩ := HPd
              rw [← hPd] at hps ⊢
              have HP := hide hPd
              have hp2 : ((P ++ ⟨#[47]⟩).size : Int) ≤ 8388608 := by
                rw [ByteArray.size_append, show (⟨#[47]⟩ : ByteArray).size = 1 from rfl]; omega
              have hps' : (P.size : Int) ≤ 8388608 := by omega
              have hts' : (t.whr.size : Int) ≤ 8388608 := by omega
              clear hps hts hPd
              by_cases hemp : P = ⟨#[]⟩
              · have hq := neq_str P ⟨#[]⟩
                rw [decide_eq_false (by simpa using hemp)] at hq
                have hel : P.toList = [] := by rw [hemp]; simp [ByteArray.toList_eq]
                have Hemp := hide hemp
                clear hemp
                by_cases hk0 : k = 0
                · have hw0 : whs (xL.take k) = [] := by rw [hk0]; simp [whs]
                  have HW := hide hw0
                  have hk0' : ¬ (0 : Int) < (k : Int) := by omega
                  clear hw0 hk0
                  go_wp2_with fail
                  go_roundw
                  case rel =>
                    refine ⟨Hf2.out.alloc _, k + 1, by omega, by go_num, .inl ⟨Hno.out.succ Ht.out Hnh.out, ?_, rfl⟩⟩
                    have := Hsn2.out
                    rw [HW.out, List.nil_append] at this
                    rw [this, joinB_one, Hemp.out]
                    congr 1
                  case measure => simp [intOf]; omega
                · have hk0' : (0 : Int) < (k : Int) := by omega
                  have hkc : (k : Int) ≤ (xc : Int) := by omega
                  have HBl := hide (fun W (hf : Fr [] wr W) => blamed_calls (c := xc) ((Hx.out.2.1.cut encT_len Hx.out.1 (Nat.le_of_lt hkn)).fr0 (Hf2.out.trans hf)) (by rw [List.length_take, Hx.out.1]; omega) (by omega))
                  cases hany : anyB (xL.take k) with
                  | true =>
                    rw [hany] at HBl
                    have Hany := hide hany
                    clear hany
                    go_wp2_with fail
                    refine (HBl.out _ ((Fr.refl [] wr).alloc _)).mono ?_
                    rintro e w3 ⟨rfl, rfl⟩
                    go_wp2_with fail
                    go_roundw
                    case rel =>
                      refine ⟨Hf2.out.alloc _, k + 1, by omega, by go_num, .inl ⟨Hno.out.succ Ht.out Hnh.out, ?_, rfl⟩⟩
                      rw [Hsn2.out, joinB_snoc _ _ (by intro h0; have := Hany.out; simp [anyB, h0] at this), ← HP.out]
                    case measure => simp [intOf]; omega
                  | false =>
                    rw [hany] at HBl
                    have Hany := hide hany
                    clear hany
                    go_wp2_with fail
                    refine (HBl.out _ ((Fr.refl [] wr).alloc _)).mono ?_
                    rintro e w3 ⟨rfl, rfl⟩
                    go_wp2_with fail
                    go_roundw
                    case rel =>
                      refine ⟨Hf2.out.alloc _, k + 1, by omega, by go_num, .inl ⟨Hno.out.succ Ht.out Hnh.out, ?_, rfl⟩⟩
                      have hw0 : whs (xL.take k) = [] := by have := Hany.out; simpa [anyB] using this
                      rw [Hsn2.out, hw0, List.nil_append, joinB_one, Hemp.out]
                      congr 1
                    case measure => simp [intOf]; omega
              · have hq := neq_str P ⟨#[]⟩
                rw [decide_eq_true (by simpa using hemp)] at hq
                have hel : ¬ P.toList = [] := fun h => hemp ((ba_list P ⟨#[]⟩).1 (by rw [h]; simp [ByteArray.toList_eq]))
                have Hemp := hide hemp
                clear hemp
                go_wp2_with fail
                go_roundw
                case rel =>
                  refine ⟨Hf2.out.alloc _, k + 1, by omega, by go_num, .inl ⟨Hno.out.succ Ht.out Hnh.out, ?_, rfl⟩⟩
                  rw [Hsn2.out, joinB_snoc _ _ (by intro h0; apply Hemp.out; rw [HP.out, h0]; rfl), ← HP.out]
                case measure => simp [intOf]; omega
            · by_cases hk2 : t.kind = 2
              · have Hk2 := hide hk2
                have Hk1 := hide hk1
                rw [hk2] at c0
                clear hk1 hk2
                go_wp2_with fail
                go_roundw
                case rel =>
                  refine ⟨Hf2.out.alloc _, k + 1, by omega, by go_num, ?_⟩
                  by_cases h0 : t.num = 0
                  · refine .inl ⟨Hno.out.succ Ht.out (by simp [hitT, h0]), ?_, by rw [h0]⟩
                    rw [anyB_snoc Ht.out Hk1.out]
                  · exact .inr ⟨k, t, rfl, Hno.out, Ht.out, by simp [hitT, h0, Hk2.out], rfl, rfl⟩
                case measure => simp [intOf]; omega
              · have hnh : hitT t = false := by simp [hitT, hk2]
                have Hnh := hide hnh
                have Hk1 := hide hk1
                clear hnh
                go_wp2_with fail
                go_roundw
                case rel =>
                  refine ⟨Hf2.out.alloc _, k + 1, by omega, by go_num, .inl ⟨Hno.out.succ Ht.out Hnh.out, ?_, rfl⟩⟩
                  rw [anyB_snoc Ht.out Hk1.out]
                case measure => simp [intOf]; omega
          · obtain rfl : xn = k := by omega
            have hg := grow_none (l := xL) (by rw [Hx.out.1]; exact Hno.out)
            clear Hno
            rw [hg] at Hsn
            clear hg
            go_wp2_with fail
            refine (known_calls 0).mono ?_
            rintro e w3 ⟨rfl, rfl⟩
            go_wp2_with fail
            go_roundw
            case rel =>
              refine ⟨i + 1, by omega, by go_num, ?_, Hrow.out.2.trans Hf2.out⟩
              rw [Hsn.out, List.append_nil]
              exact row_fr Hrow.out.1 Hf2.out (by simp)
            case measure => simp [intOf]; omega
        · have hjn : j < xn := by have := (List.getElem?_eq_some_iff.1 ht).1; have := Hx.out.1; omega
          obtain ⟨tk, tw, tn⟩ := t
          have hn0 : tn ≠ 0 := by simp [hitT] at hh; exact hh.2
          dsimp only at *
          have HT := hide (And.intro hno (And.intro ht hh))
          clear hkj hno ht hh
          by_cases hr18 : 1 ≤ tn ∧ tn ≤ 18
          · have hg := grow_hit HT.out.1 HT.out.2.1 HT.out.2.2 hr18.1 hr18.2
            dsimp only at hg
            obtain ⟨nn, rfl⟩ := Int.eq_ofNat_of_zero_le (a := tn) (by omega)
            rw [Int.toNat_natCast] at hg
            rw [hg] at Hsn
            have HK := hide (fun W => known_calls (w := W) (nn : Int))
            rw [decide_eq_true hr18] at HK
            have hm : (allC (l.take i)).length ≤ 20 := by
              have := allC_len (l.take i)
              rw [List.length_take] at this; omega
            generalize allC (l.take i) = cs at *
            have hrow2 := hide (row_fr Hrow.out.1 Hf2.out (by simp))
            have hv0 : ∀ y, u3.ownBlock = some y → w.heap.size ≤ y := fun y hy => (row_lt Hrow.out.1 hy).2
            have Hv0 := hide hv0
            have nn0 : (nn : Int) ≠ 0 := hn0
            clear hg hr18 hn0 HT hv0
            obtain ⟨P, hP⟩ : ∃ P, P = joinB (whs (xL.take j)) := ⟨_, rfl⟩
            rw [← hP]
            have HP : Hid ((cs.map lf).flatMap encL ++ [.string P, .int .i64 nn] = ((cs ++ [(whs (xL.take j), nn)]).map lf).flatMap encL) := hide (by rw [List.map_append, List.flatMap_append, hP]; rfl)
            clear hP
            generalize (cs.map lf).flatMap encL = xs at *
            rcases Nat.lt_or_ge k xn with hkn | hkn
            all_goals
              have hsz2 := Hf2.out.size
              go_wp2_with fail
              refine (HK.out _).mono ?_
              rintro e w3 ⟨rfl, rfl⟩
              go_wp2_with (at_builtin; refine wpList_append_lies _ rfl _ _ _ rfl w.heap.size 36 i0 _ 2 24 Tryd.underlying28 hi0 hz0 hs0 hb0 rfl (by omega) (u3) (cs.length) (xs) rfl ((hrow2.out.alloc _)) ⟨wr.heap.size, 0, none⟩ 1 1 [.string P, .int .i64 nn] rfl rfl (World.news_of_block (cs := #[.string P, .int .i64 nn]) (t := 36) (fr := (0, 0)) (Blk.new_at _ _ _ _ (by simp))) (by simp [Value.oneCell']) (by omega) (by unfold maxLen; omega) (by omega) (by simp; omega) (wr.heap.size + 1) (by simp) ?_; intro ag0 ac0 aw0 aown0 agrow0 aat0 alt0)
              have hfin := hide (And.intro aown0 agrow0)
              go_roundw
              case rel =>
                refine ⟨i + 1, by omega, by go_num, ?_, ((Hrow.out.2.trans Hf2.out).alloc _).grown hfin.out.2 fun y hy => .inr (Hv0.out y hy)⟩
                rw [Hsn.out, List.length_append, ← HP.out]
                exact hfin.out.1
              case measure => simp [intOf]; omega
          · have hg := grow_off HT.out.1 HT.out.2.1 HT.out.2.2 (by dsimp only; omega)
            rw [hg] at Hsn
            have HK := hide (fun W => known_calls (w := W) tn)
            rw [decide_eq_false hr18] at HK
            clear hg hr18
            rcases Nat.lt_or_ge k xn with hkn | hkn
            all_goals
              go_wp2_with fail
              refine (HK.out _).mono ?_
              rintro e w3 ⟨rfl, rfl⟩
              go_wp2_with fail
              go_roundw
              case rel =>
                refine ⟨i + 1, by omega, by go_num, ?_, Hrow.out.2.trans Hf2.out⟩
                rw [Hsn.out, List.append_nil]
                exact row_fr Hrow.out.1 Hf2.out (by simp)
              case measure => simp [intOf]; omega
    · obtain rfl : n = i := by omega
      rw [List.take_of_length_le (by rw [HR.out.2.1]; omega)] at Hrow
      clear hrow hf
      go_wp2_with fail
      go_ret
      exact ⟨_, rfl, Hrow.out.1, Hrow.out.2⟩
end Go.Proofs.YtmjdnmpiheaidaaDoor

/- GoodsStays: the walk of the law. -/
import Derived.Test.YtnncbmbepdkfnaaDoorNamesG
import Derived.Test.YtnncbmbepdkfnaaDoorAwakeG
import Derived.Test.YtnncbmbepdkfnaaDoorActG
namespace Go.Proofs.YtnncbmbepdkfnaaDoor
open Go.RowKit
def saN (A : Option Addr) (c : Nat) : Sa := ⟨none, 0, 0, [], A, 8, c, rsN⟩
theorem saN_fl (A : Option Addr) (c : Nat) : allFl (saN A c) = [] := by kernel_rfl
def nsN : List ByteArray := (List.range 8).map nmN
def vsN : List Int := (List.range 8).map fun i : Nat => 10 * (i : Int)
theorem saN_ns (A : Option Addr) (c : Nat) : (saN A c).rs.map (·.name) = nsN := by kernel_rfl
theorem saN_vs (A : Option Addr) (c : Nat) : (saN A c).rs.map (·.val) = vsN := by kernel_rfl
theorem nsN_find {i : Nat} (h : i < 8) : findI nsN (nmN i) = some i := by
  refine (?_ : ∀ j : Fin 8, findI nsN (nmN j.1) = some j.1) ⟨i, h⟩
  decide +kernel
/-- the numbers of 'last', as they are set at first -/
def lastN (i : Nat) : List Int := (List.range 8).map fun k => if k < i then 10 * (k : Int) else 0
theorem lastN_set {i : Nat} (h : i < 8) : (lastN i).set i (10 * (i : Int)) = lastN (i + 1) := by
  refine (?_ : ∀ j : Fin 8, (lastN j.1).set j.1 (10 * (j.1 : Int)) = lastN (j.1 + 1)) ⟨i, h⟩
  decide +kernel
theorem names_calls {w : World} : Calls Tryd.prog 8 #[] w fun e w' => ∃ A c, e = .returned (saN A c).val ∧ SaOk w' w'.heap.size (saN A c) ∧ Fr [] w w' :=
  names_calls2.mono fun e w' h => by
    obtain ⟨A, c, h1, h2, h3⟩ := h
    have hl := row_len h2
    refine ⟨A, c, h1, ⟨rfl, by simp [saN], by simp [saN], by simp [saN], ⟨rfl, fun h => by simp [saN] at h⟩, rfl, by simp [saN], ?_, ?_, ?_⟩, h3⟩
    · rcases row_form h2 with ⟨_, h0, _⟩ | ⟨g, cap, hv, _, _, hc, _⟩
      · omega
      · injection hv with e1 e2 e3; subst e3; exact hc
    · intro x hx
      obtain ⟨i, _, rfl⟩ := List.mem_map.1 (show x ∈ rsN from hx)
      show (ByteArray.mk _).size ≤ 100
      simp [ByteArray.size]
    · refine ⟨hl, fun _ => ?_⟩
      rcases row_form h2 with ⟨_, h0, _⟩ | ⟨g, cap, hv, _, hg, _, _⟩
      · omega
      · injection hv with e1 e2 e3
        subst e1 e3
        exact ⟨g, 0, rfl, hg, fun j u hu => by rw [Nat.zero_add]; exact row_cell h2 hu⟩
set_option maxRecDepth 100000 in
set_option maxHeartbeats 8000000 in
theorem stays_walk {w : World} {ad : Nat → Addr} {K : List Nat} (hK : K5 K) (m7 : 7 ∈ K) (hs : Sents K w.heap.size w ad) {A : Option Addr} {n c : Nat} {acts : List Ag} (hl : acts.length = n) (hn : n ≤ maxLen) (hr : Reads w w.heap.size 4 A n (acts.flatMap encA)) :
    Calls Tryd.prog 3 #[.slice A n c] w fun e w' => e = .returned (.bool true) ∧ Below w.heap.size w w' := by
  have HA := hide (awakeG_calls hK m7 hs)
  have H0 := hide (And.intro hs (And.intro hl hr))
  have n2 : ∀ (W : World), (binOp .neq 26 .nilIface .nilIface).run Tryd.prog W = .ok (.bool false) W := fun W => by kernel_rfl
  have hn63 : (n : Int) ≤ 9223372036854775807 := by unfold maxLen at hn; omega
  clear hs hl hr hn
  go_enter Tryd.func3, Tryd.ntmps3
  go_wp2_with fail
  refine HA.out.mono ?_
  rintro e w1 ⟨rfl, hf1⟩
  have H1 := hide hf1
  clear hf1 HA
  go_wp2_with fail
  refine names_calls.mono ?_
  rintro e w2 ⟨A2, c2, rfl, hok, hf2⟩
  have H2 := hide (H1.out.trans hf2)
  have HN := hide (newG_calls hK ((H0.out.1.fr0 H2.out).rebase) hok)
  rw [show (saN A2 c2).val = .agg #[.slice none 0 0, .slice A2 8 c2] from rfl] at HN ⊢
  clear hok hf2
  go_wp2_with fail
  refine HN.out.mono ?_
  rintro e w3 ⟨pv, ev, rfl, hp, hf3⟩
  have H3 := hide (H2.out.trans hf3)
  unfold NewPost at hp
  rw [saN_fl, saN_ns, saN_vs] at hp
  rcases hp with ⟨h, -⟩ | ⟨-, rfl, g, S, rfl, hg⟩
  · exact absurd rfl h
  have hgr : GR w.heap.size w3 g nsN vsN 0 S := hg.up H2.out.size
  have HG := hide hgr
  clear hg hf3 hgr HN
  go_wp2_with fail
  have hgl : w3.heap.size ∉ S := fun hm => by have := (HG.out.ge _ hm).2; omega
  have hbl : Blk (w3.alloc (.cells #[.int .i64 0, .int .i64 0, .int .i64 0, .int .i64 0, .int .i64 0, .int .i64 0, .int .i64 0, .int .i64 0] 34)) w3.heap.size 34 (ints (lastN 0)).toArray := Blk.new _ _ _
  have hgw : w.heap.size ≤ w3.heap.size := H3.out.size
  have hG4 := hide (And.intro (HG.out.fr0 ((Fr.refl _ _).alloc (.cells #[.int .i64 0, .int .i64 0, .int .i64 0, .int .i64 0, .int .i64 0, .int .i64 0, .int .i64 0, .int .i64 0] 34))) (And.intro hbl (H3.out.alloc (.cells #[.int .i64 0, .int .i64 0, .int .i64 0, .int .i64 0, .int .i64 0, .int .i64 0, .int .i64 0, .int .i64 0] 34))))
  clear hbl HG
  generalize w3.alloc (.cells #[.int .i64 0, .int .i64 0, .int .i64 0, .int .i64 0, .int .i64 0, .int .i64 0, .int .i64 0, .int .i64 0] 34) = w4 at *
  generalize w3.heap.size = gl at *
  have HL := hide (And.intro hgl hgw)
  clear hgl hgw H3
  go_loopw [6] (fun s6 wr => ∃ i : Nat, i ≤ 8 ∧ s6 = .int .i64 i ∧ GR w.heap.size wr g nsN vsN 0 S ∧ Blk wr gl 34 (ints (lastN i)).toArray ∧ Fr [] w wr) (fun s6 _ => 8 - (intOf s6).toNat)
  case atStart => exact ⟨0, by omega, rfl, hG4.out.1, hG4.out.2.1, hG4.out.2.2⟩
  case round =>
    clear hG4
    obtain ⟨i, hi, rfl, hgr, hbl, hf⟩ := hrel
    have j0 : (0 : Int) ≤ (i : Int) := by omega
    by_cases hin : i < 8
    · have j1 : (i : Int) < 8 := by omega
      have hmul : IntKind.i64.wrap (10 * (i : Int)) = 10 * (i : Int) := by rw [IntKind.wrap_i64]; omega
      obtain ⟨x, hx⟩ : ∃ x, (lastN i)[i]? = some x := ⟨_, List.getElem?_eq_getElem (by simp [lastN]; omega)⟩
      have c0 := hbl.at_ i (v := .int .i64 x) (by simp [ints, hx])
      have lg := hbl.lt
      have fg := hbl.frozen i
      have H := hide (And.intro hgr (And.intro hbl hf))
      have Hin := hide hin
      clear hgr hbl hf hx
      go_wp2_with fail
      go_roundw
      case rel =>
        have hfs : Fr [gl] wr (wr.setCell ⟨gl, i, none⟩ (.int .i64 (10 * (i : Int)))) := (Fr.refl _ wr).setCell (p := ⟨gl, i, none⟩) (.inl (by simp)) _
        refine ⟨i + 1, by omega, by go_num, H.out.1.fr hfs (fun b hb hm => HL.out.1 (by rw [List.mem_singleton] at hm; exact hm ▸ hb)), ?_, H.out.2.2.setCell (p := ⟨gl, i, none⟩) (.inr HL.out.2) _⟩
        have := H.out.2.1.set_ i (.int .i64 (10 * (i : Int)))
        rw [← lastN_set Hin.out, ← ints_set]
        simpa using this
      case measure => simp [intOf]; omega
    · obtain rfl : i = 8 := by omega
      rw [show lastN 8 = vsN by kernel_rfl] at hbl
      have H4 := hide (And.intro hgr (And.intro hbl hf))
      clear hgr hbl hf
      simp only [show ((8 : Nat) : Int) = 8 from rfl]
      go_wp2_with fail
      go_loopw [7] (fun s7 wr => ∃ (i : Nat) (vs : List Int), i ≤ n ∧ i ≤ 100 ∧ vs.length = 8 ∧ s7 = .int .i64 i ∧ GR w.heap.size wr g nsN vs i S ∧ Blk wr gl 34 (ints vs).toArray ∧ Fr [] w wr) (fun s7 _ => n - (intOf s7).toNat)
      case atStart => exact ⟨0, vsN, by omega, by omega, by rfl, rfl, H4.out.1, H4.out.2.1, H4.out.2.2⟩
      case round =>
        clear H4
        obtain ⟨i, vs, hi, hi100, hvl, rfl, hgr, hbl, hf⟩ := hrel
        have j0 : (0 : Int) ≤ (i : Int) := by omega
        by_cases hin : i < n ∧ i < 100
        · obtain ⟨hin, hin100⟩ := hin
          have j1 : (i : Int) < (n : Int) := by omega
          have j2 : (i : Int) < 100 := by omega
          obtain ⟨a, ha⟩ : ∃ a, acts[i]? = some a := ⟨_, List.getElem?_eq_getElem (by rw [H0.out.2.1]; exact hin)⟩
          obtain ⟨b, off, rfl, hb, hcl⟩ := H0.out.2.2.at_ encA_len ha H0.out.2.1
          have a1 := (hf.cell (p := ⟨b, off + (i * 4 + 1), none⟩) hb (by simp)).trans (hcl 1 (.int .i64 a.i) rfl)
          have a2 := (hf.cell (p := ⟨b, off + (i * 4 + 2), none⟩) hb (by simp)).trans (hcl 2 (.int .i64 a.n) rfl)
          rw [← Nat.add_assoc] at a1 a2
          have lb := Nat.lt_of_lt_of_le hb hf.size
          obtain ⟨u, hu, hu2⟩ := u64_nat a.i
          obtain ⟨k, hk⟩ : ∃ k, k = u % 8 := ⟨_, rfl⟩
          have hk8 : k < 8 := by omega
          have hk1 : (u : Int) % 8 = (k : Int) := by omega
          have hk2 : (u : Int).tmod 8 = (k : Int) := by rw [Int.tmod_eq_emod_of_nonneg (by omega)]; omega
          have k0 : (0 : Int) ≤ (k : Int) := by omega
          have k1 : (k : Int) < 8 := by omega
          obtain ⟨x, hx⟩ : ∃ x, vs[k]? = some x := ⟨_, List.getElem?_eq_getElem (by omega)⟩
          have HS := hide (set_in hgr (by omega) hx a.n (by omega) (by omega))
          have HA2 := hide (fun W (hf' : Fr S wr W) => And.intro ((hgr.step hf (Nat.le_refl _) hf').cell (p := ⟨b, off + i * 4 + 2, none⟩) hb (by simp)) ((hgr.step hf (Nat.le_refl _) hf').size))
          have HV := hide (And.intro hx hvl)
          have H := hide (And.intro hgr (And.intro hbl hf))
          have Hcl := hide (hcl 2 (.int .i64 a.n) rfl)
          clear hgr hbl hf hx hcl ha hk hu2
          go_wp2_with fail
          refine HS.out.mono ?_
          rintro e w5 ⟨rfl, hg5, hf5⟩
          have hb5 := H.out.2.1.fr hf5 HL.out.1
          have hf05 := H.out.1.step H.out.2.2 (Nat.le_refl _) hf5
          have a25 := (hf05.cell (p := ⟨b, off + (i * 4 + 2), none⟩) hb (by simp)).trans Hcl.out
          rw [← Nat.add_assoc] at a25
          have lb5 := Nat.lt_of_lt_of_le hb hf05.size
          have c5 := hb5.at_ k (v := .int .i64 x) (by simp [ints, HV.out.1])
          have lg5 := hb5.lt
          have fg5 := hb5.frozen k
          have H5 := hide (And.intro hg5 (And.intro hb5 hf05))
          clear hg5 hb5 hf05 hf5 HS a1 a2 lb
          go_wp2_with fail
          go_roundw
          case rel =>
            have hfs : Fr [gl] w5 (w5.setCell ⟨gl, k, none⟩ (.int .i64 a.n)) := (Fr.refl _ w5).setCell (p := ⟨gl, k, none⟩) (.inl (by simp)) _
            refine ⟨i + 1, vs.set k a.n, by omega, by omega, by rw [List.length_set]; exact HV.out.2, by go_num, ?_, ?_, H5.out.2.2.setCell (p := ⟨gl, k, none⟩) (.inr HL.out.2) _⟩
            · exact H5.out.1.fr hfs (fun b hb hm => HL.out.1 (by rw [List.mem_singleton] at hm; exact hm ▸ hb))
            · have := H5.out.2.1.set_ k (.int .i64 a.n)
              rw [← ints_set]
              simpa using this
          case measure => simp [intOf]; omega
        · have hmin : (n ≤ i ∧ i = n ∧ n ≤ 100) ∨ (i < n ∧ i = 100) := by omega
          have H5 := hide (And.intro hgr (And.intro hbl hf))
          have Hvl := hide hvl
          have HCh := hide (fun W (hf : Fr [] wr W) => changes_calls (hgr.fr0 hf))
          have HGt := hide (fun W (hf : Fr [] wr W) j y (hy : vs[j]? = some y) => get_in (hgr.fr0 hf) (by omega) hy)
          have HNm := hide (fun W (hf : Fr [] wr W) j (hj : j < 8) => by have := namedG_calls (hgr.fr0 hf) (nmN j); rw [nsN_find hj] at this; exact this)
          simp only [isAt, Option.getD_some, Option.isSome_some] at HNm
          clear hgr hbl hf hin
          have ways : ¬ (i : Int) < (n : Int) ∨ ((i : Int) < (n : Int) ∧ ¬ (i : Int) < 100) := by omega
          have hmn : min (n : Int) 100 = (i : Int) := by omega
          clear hmin
          rcases ways with hw1 | ⟨hw1, hw2⟩
          all_goals
            go_wp2_with fail
            go_loopw [11] (fun s11 wq => wr = wq ∧ ∃ j : Nat, j ≤ 8 ∧ s11 = .int .i64 j) (fun s11 _ => 8 - (intOf s11).toNat)
            case atStart => exact ⟨rfl, 0, by omega, rfl⟩
            case round =>
              obtain ⟨rfl, j, hj, rfl⟩ := hrel
              have k0 : (0 : Int) ≤ (j : Int) := by omega
              by_cases hj8 : j < 8
              · have k1 : (j : Int) < 8 := by omega
                have hsl := all_slice j hj8
                have hw3 : IntKind.i64.wrap ((j : Int) + 1) = (j : Int) + 1 := by rw [IntKind.wrap_i64]; omega
                obtain ⟨y, hy⟩ : ∃ y, vs[j]? = some y := ⟨_, List.getElem?_eq_getElem (by rw [Hvl.out]; exact hj8)⟩
                have cj := H5.out.2.1.at_ j (v := .int .i64 y) (by simp [ints, hy])
                have lg := H5.out.2.1.lt
                have HG1 := hide (HGt.out _ (Fr.refl _ _) j y hy)
                have HN1 := hide (HNm.out _ (Fr.refl _ _) j hj8)
                clear hy
                generalize nmN j = nn at *
                go_wp2_with fail
                refine HG1.out.mono ?_
                rintro e w' ⟨rfl, rfl⟩
                go_wp2_with fail
                refine HN1.out.mono ?_
                rintro e w' ⟨rfl, rfl⟩
                go_wp2_with fail
                go_roundw
                case rel => exact ⟨trivial, j + 1, by omega, by go_num⟩
                case measure => simp [intOf]; omega
              · have k1 : ¬ (j : Int) < 8 := by omega
                go_wp2_with fail
                refine (HCh.out _ (Fr.refl _ _)).mono ?_
                rintro e w' ⟨rfl, rfl⟩
                go_wp2_with fail
                go_ret
                exact ⟨rfl, H5.out.2.2.below (by simp) (Nat.le_refl _)⟩
end Go.Proofs.YtnncbmbepdkfnaaDoor

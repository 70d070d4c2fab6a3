/- grown: a row of twigs, as an error. -/
import Derived.Test.YtmjdnmpiheaidaaDoorAwakeB
import Derived.Test.YtmjdnmpiheaidaaDoorTwigs
import Derived.Test.YtmjdnmpiheaidaaDoorAppends
import Derived.Test.YtmjdnmpiheaidaaDoorZeros
namespace Go.Proofs.YtmjdnmpiheaidaaDoor
open Go.RowKit

/-! ### The plain side -/
def hitT (t : Tw) : Bool := t.kind == 2 && t.num != 0
def whs (l : List Tw) : List ByteArray := (l.filter fun t => t.kind == 1).map (·.whr)
theorem whs_cons (t : Tw) (l : List Tw) : whs (t :: l) = if t.kind = 1 then t.whr :: whs l else whs l := by
  unfold whs
  by_cases h : t.kind = 1 <;> simp [h]
theorem whs_len (l : List Tw) : (whs l).length ≤ l.length := by
  unfold whs; rw [List.length_map]; exact List.length_filter_le _ _
theorem whs_mem {l : List Tw} {s : ByteArray} (h : s ∈ whs l) : ∃ t ∈ l, t.whr = s := by
  obtain ⟨t, ht, rfl⟩ := List.mem_map.mp h
  exact ⟨t, (List.mem_filter.mp ht).1, rfl⟩
/-- the leaves of a row: one, or none -/
def growC (l : List Tw) : List Ch := match l.dropWhile (fun t => !hitT t) with
  | [] => []
  | t :: _ => if 1 ≤ t.num ∧ t.num ≤ 18 then [(whs (l.takeWhile fun t => !hitT t), t.num.toNat)] else []
def NoHit (l : List Tw) (i : Nat) : Prop := ∀ m < i, ∀ t, l[m]? = some t → hitT t = false
theorem NoHit.take {l : List Tw} {i : Nat} (h : NoHit l i) : ∀ t ∈ l.take i, (!hitT t) = true := by
  intro t ht
  obtain ⟨m, hm⟩ := List.getElem?_of_mem ht
  rw [List.getElem?_take] at hm
  split at hm
  · rename_i hlt
    rw [h m hlt t hm]; rfl
  · cases hm
theorem NoHit.zero (l : List Tw) : NoHit l 0 := fun m hm => by omega
theorem NoHit.succ {l : List Tw} {i : Nat} {t : Tw} (h : NoHit l i) (ht : l[i]? = some t) (hn : hitT t = false) : NoHit l (i + 1) := by
  intro m hm t' ht'
  rcases Nat.lt_or_ge m i with hlt | hge
  · exact h m hlt t' ht'
  · obtain rfl : m = i := by omega
    obtain rfl := Option.some.inj (ht.symm.trans ht')
    exact hn
theorem drop_nil {α : Type} {p : α → Bool} : ∀ (l : List α), (∀ x ∈ l, p x = true) → l.dropWhile p = []
  | [], _ => rfl
  | a :: l, h => by
    rw [List.dropWhile_cons_of_pos (h a (by simp))]
    exact drop_nil l fun x hx => h x (by simp [hx])
theorem grow_none {l : List Tw} (h : NoHit l l.length) : growC l = [] := by
  have h1 := h.take
  rw [List.take_length] at h1
  unfold growC
  rw [drop_nil l h1]
theorem grow_split {l : List Tw} {i : Nat} {t : Tw} (h : NoHit l i) (ht : l[i]? = some t) (hh : hitT t = true) : l.dropWhile (fun t => !hitT t) = t :: l.drop (i + 1) ∧ l.takeWhile (fun t => !hitT t) = l.take i := by
  have hi := (List.getElem?_eq_some_iff.1 ht).1
  have hd : l.drop i = t :: l.drop (i + 1) := by
    rw [List.drop_eq_getElem_cons hi, (List.getElem?_eq_some_iff.1 ht).2]
  have e : l = l.take i ++ t :: l.drop (i + 1) := by rw [← hd, List.take_append_drop]
  constructor
  · conv => lhs; rw [e]
    rw [List.dropWhile_append_of_pos h.take, List.dropWhile_cons_of_neg (by simp [hh])]
  · conv => lhs; rw [e]
    rw [List.takeWhile_append_of_pos h.take, List.takeWhile_cons_of_neg (by simp [hh]), List.append_nil]
theorem grow_hit {l : List Tw} {i : Nat} {t : Tw} (h : NoHit l i) (ht : l[i]? = some t) (hh : hitT t = true) (h1 : 1 ≤ t.num) (h2 : t.num ≤ 18) : growC l = [(whs (l.take i), t.num.toNat)] := by
  obtain ⟨e1, e2⟩ := grow_split h ht hh
  unfold growC
  rw [e1, e2]
  simp [h1, h2]
theorem grow_off {l : List Tw} {i : Nat} {t : Tw} (h : NoHit l i) (ht : l[i]? = some t) (hh : hitT t = true) (h1 : t.num < 1 ∨ 18 < t.num) : growC l = [] := by
  obtain ⟨e1, e2⟩ := grow_split h ht hh
  unfold growC
  rw [e1]
  have : ¬ (1 ≤ t.num ∧ t.num ≤ 18) := by omega
  simp [this]
theorem grow_one (l : List Tw) : (growC l).length ≤ 1 := by
  unfold growC
  split
  · simp
  · split <;> simp

/-! ### The walk -/
theorem at_ev1 {w : World} {ad : Nat → Addr} {v : Value} {cs : List Ch} (h : EV w ad v cs) (h1 : cs.length ≤ 1) (s : ByteArray) :
    Calls Tryd.prog 17 #[.string s, v] w fun e w' => ∃ x, e = .returned x ∧ EV w' ad x (cs.map fun c => (s :: c.1, c.2)) ∧ Fr [] w w' := by
  refine (at_ev h s).mono ?_
  rintro e w' ⟨x, rfl, hn, hw, hf⟩
  refine ⟨x, rfl, ?_, hf⟩
  rcases cs with _ | ⟨c, _ | ⟨c', cs⟩⟩
  · obtain rfl := hn rfl
    exact .inl ⟨rfl, rfl⟩
  · exact (hw (by simp)).one.ev
  · simp at h1
set_option maxRecDepth 100000 in
set_option maxHeartbeats 4000000 in
theorem grown_calls {B : Nat} {w : World} {ad : Nat → Addr} (hs : Sents All18 B w ad) {A : Option Addr} {n c : Nat} {l : List Tw} (hr : Reads w w.heap.size 3 A n (l.flatMap encT)) (hl : l.length = n) (hn : n ≤ 12) :
    Calls Tryd.prog 27 #[.slice A n c] w fun e w' => ∃ v, e = .returned v ∧ EV w' ad v (growC l) ∧ Fr [] w w' := by
  have H0 := hide hs
  have HR := hide (And.intro hr hl)
  have e0 := eql_nil_false
  have e1 := eql_nil_nil
  clear hs hr hl
  go_enter Tryd.func27, Tryd.ntmps27
  go_wp2_with fail
  go_loopw [3, 4, 5] (fun s3 s4 s5 wr => w = wr ∧ ∃ i : Nat, i ≤ n ∧ s5 = .int .i64 i ∧ ((NoHit l i ∧ s3 = .nilIface ∧ s4 = .int .i64 n) ∨ ∃ (j : Nat) (t : Tw), i = j + 1 ∧ NoHit l j ∧ l[j]? = some t ∧ hitT t = true ∧ 1 ≤ t.num ∧ t.num ≤ 18 ∧ s3 = sv (ad t.num.toNat) ∧ s4 = .int .i64 j)) (fun _ _ s5 _ => n - (intOf s5).toNat)
  case atStart => exact ⟨rfl, 0, by omega, rfl, .inl ⟨NoHit.zero l, rfl, rfl⟩⟩
  case round =>
    obtain ⟨rfl, i, hi, rfl, hc⟩ := hrel
    have i0 : (0 : Int) ≤ (i : Int) := by omega
    rcases hc with ⟨hno, rfl, rfl⟩ | ⟨j, t, hij, hno, ht, hh, t1, t2, rfl, rfl⟩
    · by_cases hin : i < n
      · obtain ⟨x, hx⟩ : ∃ x, l[i]? = some x := ⟨l[i]'(by have := HR.out.2; omega), by simp⟩
        obtain ⟨b, off, rfl, hb, hcl⟩ := HR.out.1.at_ encT_len hx HR.out.2
        have a0 := hcl 0 (.int .i64 x.kind) rfl
        have a2 := hcl 2 (.int .i64 x.num) rfl
        have i1 : (i : Int) < (n : Int) := by omega
        have Hno := hide hno
        have Hx := hide hx
        clear hcl hno hx
        rw [Nat.add_zero] at a0
        rw [← Nat.add_assoc] at a2
        by_cases hk : x.kind = 2
        · by_cases h0 : x.num = 0
          · have hn0 : hitT x = false := by simp [hitT, h0]
            have Hn := hide hn0
            clear hn0
            rw [hk] at a0
            rw [h0] at a2
            clear hk h0
            go_wp2_with fail
            go_roundw
            case rel => exact ⟨trivial, i + 1, by omega, by go_num, .inl ⟨Hno.out.succ Hx.out Hn.out, rfl, rfl⟩⟩
            case measure => simp [intOf]; omega
          · have hn1 : hitT x = true := by simp [hitT, hk, h0]
            have Hn := hide hn1
            clear hn1
            rw [hk] at a0
            clear hk
            by_cases hr : 1 ≤ x.num ∧ x.num ≤ 18
            · have h18 : (x.num.toNat : Int) = x.num := by omega
              have hq1 : 1 ≤ x.num.toNat := by omega
              have hq2 : x.num.toNat ≤ 18 := by omega
              have HO := hide (of_calls H0.out x.num.toNat hq1 hq2)
              rw [h18] at HO
              have Hr := hide hr
              clear h18 hr
              go_wp2_with fail
              refine HO.out.mono ?_
              rintro e w' ⟨rfl, rfl⟩
              go_wp2_with fail
              go_roundw
              case rel => exact ⟨trivial, i + 1, by omega, by go_num, .inr ⟨i, x, rfl, Hno.out, Hx.out, Hn.out, Hr.out.1, Hr.out.2, rfl, rfl⟩⟩
              case measure => simp [intOf]; omega
            · have hr' : x.num < 1 ∨ 18 < x.num := by omega
              have HO := hide (of_none (w := w) x.num hr')
              have Hr := hide hr'
              clear hr hr'
              go_wp2_with fail
              refine HO.out.mono ?_
              rintro e w' ⟨rfl, rfl⟩
              go_wp2_with fail
              go_ret
              exact ⟨_, rfl, .inl ⟨rfl, grow_off Hno.out Hx.out Hn.out Hr.out⟩, Fr.refl _ _⟩
        · have hn0 : hitT x = false := by simp [hitT, hk]
          have Hn := hide hn0
          clear hn0
          go_wp2_with fail
          go_roundw
          case rel => exact ⟨trivial, i + 1, by omega, by go_num, .inl ⟨Hno.out.succ Hx.out Hn.out, rfl, rfl⟩⟩
          case measure => simp [intOf]; omega
      · obtain rfl : i = n := by omega
        obtain ⟨q, hev, hq1, hgr⟩ : ∃ (q : List Ch), EV w ad .nilIface q ∧ q.length ≤ 1 ∧ (q.map fun c => (whs (l.take i) ++ c.1, c.2)) = growC l :=
          ⟨[], .inl ⟨rfl, rfl⟩, by simp, by rw [grow_none (by rw [HR.out.2]; exact hno)]; rfl⟩
        have HE := hide (And.intro hq1 hgr)
        have HV : Hid (EV w ad .nilIface q) := hide hev
        clear hev hq1 hgr hno
        go_wp2_with fail
        go_loopw [3, 6] (fun s3 s6 wr => ∃ m : Nat, m ≤ i ∧ s6 = .int .i64 ((m : Int) - 1) ∧ EV wr ad s3 (q.map fun c => (whs ((l.take i).drop m) ++ c.1, c.2)) ∧ Fr [] w wr) (fun _ s6 _ => (intOf s6 + 1).toNat)
        case atStart =>
          refine ⟨i, Nat.le_refl _, rfl, ?_, Fr.refl _ _⟩
          have : (l.take i).drop i = [] := List.drop_eq_nil_of_le (by rw [List.length_take]; omega)
          rw [this]
          simpa [whs] using HV.out
        case round =>
          obtain ⟨m, hm, rfl, hev, hf⟩ := hrel
          have HV := hide hev
          have Hf := hide hf
          clear hev hf
          rcases m with _ | p
          · simp only [show (((0 : Nat) : Int) - 1) = -1 from rfl]
            go_wp2_with fail
            go_ret
            have hv := HV.out
            rw [List.drop_zero, HE.out.2] at hv
            exact ⟨_, rfl, hv, Hf.out⟩
          · have ep : (((p + 1 : Nat) : Int) - 1) = (p : Int) := by omega
            simp only [ep]
            clear ep
            obtain ⟨x, hx⟩ : ∃ x, l[p]? = some x := ⟨l[p]'(by have := HR.out.2; omega), by simp⟩
            obtain ⟨b, off, rfl, hb, hcl⟩ := HR.out.1.at_ encT_len hx HR.out.2
            have a0 := (Hf.out.cell (p := ⟨b, off + (p * 3 + 0), none⟩) hb (by simp)).trans (hcl 0 (.int .i64 x.kind) rfl)
            have a1 := (Hf.out.cell (p := ⟨b, off + (p * 3 + 1), none⟩) hb (by simp)).trans (hcl 1 (.string x.whr) rfl)
            rw [Nat.add_zero] at a0
            rw [← Nat.add_assoc] at a1
            have p0 : (0 : Int) ≤ (p : Int) := by omega
            have p1 : (p : Int) < (i : Int) := by omega
            have hd : (l.take i).drop p = x :: (l.take i).drop (p + 1) := by
              have hlen : (l.take i).length = i := by rw [List.length_take, HR.out.2]; omega
              rw [List.drop_eq_getElem_cons (by omega), List.getElem_take, (List.getElem?_eq_some_iff.1 hx).2]
            have Hd := hide hd
            clear hx hcl hd
            by_cases hk : x.kind = 1
            · rw [hk] at a0
              have HA := hide (at_ev1 HV.out (by rw [List.length_map]; exact HE.out.1) x.whr)
              have Hk := hide hk
              clear hk
              go_wp2_with fail
              refine HA.out.mono ?_
              rintro e w2 ⟨v2, rfl, hv2, hf2⟩
              have H2 := hide (And.intro hv2 (Hf.out.trans hf2))
              clear hv2 hf2
              go_wp2_with fail
              go_roundw
              case rel =>
                refine ⟨p, by omega, by go_num, ?_, H2.out.2⟩
                have hv := H2.out.1
                rw [List.map_map] at hv
                rw [Hd.out, whs_cons, if_pos Hk.out]
                exact hv
              case measure => simp [intOf] <;> omega
            · have Hk := hide hk
              go_wp2_with fail
              go_roundw
              case rel =>
                refine ⟨p, by omega, by go_num, ?_, Hf.out⟩
                rw [Hd.out, whs_cons, if_neg Hk.out]
                exact HV.out
              case measure => simp [intOf] <;> omega
    · have hql : j + 1 ≤ n := by omega
      have hjn : j < n := by omega
      obtain ⟨m0, q, hsl, hm0, hev, hq1, hgr⟩ : ∃ (m0 : Nat) (q : List Ch), j = m0 ∧ m0 ≤ j ∧ EV w ad (sv (ad t.num.toNat)) q ∧ q.length ≤ 1 ∧ (q.map fun c => (whs (l.take m0) ++ c.1, c.2)) = growC l :=
        ⟨j, [([], t.num.toNat)], rfl, Nat.le_refl _, (sent_hc (by omega) (by omega)).ev, by simp, by rw [grow_hit hno ht hh t1 t2]; simp⟩
      subst hsl
      clear hij hql
      rcases Nat.lt_or_ge i n with hin | hin
      · have hin' : (i : Int) < (n : Int) := by omega
        have HE := hide (And.intro hq1 hgr)
        have HV : Hid (EV w ad (sv (ad t.num.toNat)) q) := hide hev
        clear hev hq1 hgr hno ht hh t1 t2
        go_wp2_with fail
        go_loopw [3, 6] (fun s3 s6 wr => ∃ m : Nat, m ≤ j ∧ s6 = .int .i64 ((m : Int) - 1) ∧ EV wr ad s3 (q.map fun c => (whs ((l.take j).drop m) ++ c.1, c.2)) ∧ Fr [] w wr) (fun _ s6 _ => (intOf s6 + 1).toNat)
        case atStart =>
          refine ⟨j, Nat.le_refl _, rfl, ?_, Fr.refl _ _⟩
          have : (l.take j).drop j = [] := List.drop_eq_nil_of_le (by rw [List.length_take]; omega)
          rw [this]
          simpa [whs] using HV.out
        case round =>
          obtain ⟨m, hm, rfl, hev, hf⟩ := hrel
          have HV := hide hev
          have Hf := hide hf
          clear hev hf
          rcases m with _ | p
          · simp only [show (((0 : Nat) : Int) - 1) = -1 from rfl]
            go_wp2_with fail
            go_ret
            have hv := HV.out
            rw [List.drop_zero, HE.out.2] at hv
            exact ⟨_, rfl, hv, Hf.out⟩
          · have ep : (((p + 1 : Nat) : Int) - 1) = (p : Int) := by omega
            simp only [ep]
            clear ep
            obtain ⟨x, hx⟩ : ∃ x, l[p]? = some x := ⟨l[p]'(by have := HR.out.2; omega), by simp⟩
            obtain ⟨b, off, rfl, hb, hcl⟩ := HR.out.1.at_ encT_len hx HR.out.2
            have a0 := (Hf.out.cell (p := ⟨b, off + (p * 3 + 0), none⟩) hb (by simp)).trans (hcl 0 (.int .i64 x.kind) rfl)
            have a1 := (Hf.out.cell (p := ⟨b, off + (p * 3 + 1), none⟩) hb (by simp)).trans (hcl 1 (.string x.whr) rfl)
            rw [Nat.add_zero] at a0
            rw [← Nat.add_assoc] at a1
            have p0 : (0 : Int) ≤ (p : Int) := by omega
            have p1 : (p : Int) < (n : Int) := by omega
            have hd : (l.take j).drop p = x :: (l.take j).drop (p + 1) := by
              have hlen : (l.take j).length = j := by rw [List.length_take, HR.out.2]; omega
              rw [List.drop_eq_getElem_cons (by omega), List.getElem_take, (List.getElem?_eq_some_iff.1 hx).2]
            have Hd := hide hd
            clear hx hcl hd
            by_cases hk : x.kind = 1
            · rw [hk] at a0
              have HA := hide (at_ev1 HV.out (by rw [List.length_map]; exact HE.out.1) x.whr)
              have Hk := hide hk
              clear hk
              go_wp2_with fail
              refine HA.out.mono ?_
              rintro e w2 ⟨v2, rfl, hv2, hf2⟩
              have H2 := hide (And.intro hv2 (Hf.out.trans hf2))
              clear hv2 hf2
              go_wp2_with fail
              go_roundw
              case rel =>
                refine ⟨p, by omega, by go_num, ?_, H2.out.2⟩
                have hv := H2.out.1
                rw [List.map_map] at hv
                rw [Hd.out, whs_cons, if_pos Hk.out]
                exact hv
              case measure => simp [intOf] <;> omega
            · have Hk := hide hk
              go_wp2_with fail
              go_roundw
              case rel =>
                refine ⟨p, by omega, by go_num, ?_, Hf.out⟩
                rw [Hd.out, whs_cons, if_neg Hk.out]
                exact HV.out
              case measure => simp [intOf] <;> omega
      · have hin' : ¬ (i : Int) < (n : Int) := by omega
        have HE := hide (And.intro hq1 hgr)
        have HV : Hid (EV w ad (sv (ad t.num.toNat)) q) := hide hev
        clear hev hq1 hgr hno ht hh t1 t2
        go_wp2_with fail
        go_loopw [3, 6] (fun s3 s6 wr => ∃ m : Nat, m ≤ j ∧ s6 = .int .i64 ((m : Int) - 1) ∧ EV wr ad s3 (q.map fun c => (whs ((l.take j).drop m) ++ c.1, c.2)) ∧ Fr [] w wr) (fun _ s6 _ => (intOf s6 + 1).toNat)
        case atStart =>
          refine ⟨j, Nat.le_refl _, rfl, ?_, Fr.refl _ _⟩
          have : (l.take j).drop j = [] := List.drop_eq_nil_of_le (by rw [List.length_take]; omega)
          rw [this]
          simpa [whs] using HV.out
        case round =>
          obtain ⟨m, hm, rfl, hev, hf⟩ := hrel
          have HV := hide hev
          have Hf := hide hf
          clear hev hf
          rcases m with _ | p
          · simp only [show (((0 : Nat) : Int) - 1) = -1 from rfl]
            go_wp2_with fail
            go_ret
            have hv := HV.out
            rw [List.drop_zero, HE.out.2] at hv
            exact ⟨_, rfl, hv, Hf.out⟩
          · have ep : (((p + 1 : Nat) : Int) - 1) = (p : Int) := by omega
            simp only [ep]
            clear ep
            obtain ⟨x, hx⟩ : ∃ x, l[p]? = some x := ⟨l[p]'(by have := HR.out.2; omega), by simp⟩
            obtain ⟨b, off, rfl, hb, hcl⟩ := HR.out.1.at_ encT_len hx HR.out.2
            have a0 := (Hf.out.cell (p := ⟨b, off + (p * 3 + 0), none⟩) hb (by simp)).trans (hcl 0 (.int .i64 x.kind) rfl)
            have a1 := (Hf.out.cell (p := ⟨b, off + (p * 3 + 1), none⟩) hb (by simp)).trans (hcl 1 (.string x.whr) rfl)
            rw [Nat.add_zero] at a0
            rw [← Nat.add_assoc] at a1
            have p0 : (0 : Int) ≤ (p : Int) := by omega
            have p1 : (p : Int) < (n : Int) := by omega
            have hd : (l.take j).drop p = x :: (l.take j).drop (p + 1) := by
              have hlen : (l.take j).length = j := by rw [List.length_take, HR.out.2]; omega
              rw [List.drop_eq_getElem_cons (by omega), List.getElem_take, (List.getElem?_eq_some_iff.1 hx).2]
            have Hd := hide hd
            clear hx hcl hd
            by_cases hk : x.kind = 1
            · rw [hk] at a0
              have HA := hide (at_ev1 HV.out (by rw [List.length_map]; exact HE.out.1) x.whr)
              have Hk := hide hk
              clear hk
              go_wp2_with fail
              refine HA.out.mono ?_
              rintro e w2 ⟨v2, rfl, hv2, hf2⟩
              have H2 := hide (And.intro hv2 (Hf.out.trans hf2))
              clear hv2 hf2
              go_wp2_with fail
              go_roundw
              case rel =>
                refine ⟨p, by omega, by go_num, ?_, H2.out.2⟩
                have hv := H2.out.1
                rw [List.map_map] at hv
                rw [Hd.out, whs_cons, if_pos Hk.out]
                exact hv
              case measure => simp [intOf] <;> omega
            · have Hk := hide hk
              go_wp2_with fail
              go_roundw
              case rel =>
                refine ⟨p, by omega, by go_num, ?_, Hf.out⟩
                rw [Hd.out, whs_cons, if_neg Hk.out]
                exact HV.out
              case measure => simp [intOf] <;> omega
set_option maxRecDepth 100000 in
set_option maxHeartbeats 4000000 in
theorem great_calls {w : World} {A : Option Addr} {n c : Nat} {l : List Rw} (hr : Reads w w.heap.size 1 A n (l.flatMap encR)) (hl : l.length = n) (hn : n ≤ maxLen) (hok : ∀ x ∈ l, okR w w.heap.size x) :
    Calls Tryd.prog 9 #[.slice A n c] w fun e w' => w = w' ∧ (e = .returned (.bool true) ∨ (e = .returned (.bool false) ∧ n ≤ 20 ∧ ∀ x ∈ l, x.n ≤ 12 ∧ ∀ t ∈ x.l, t.whr.size ≤ 100)) := by
  have HR := hide (And.intro hr (And.intro hl hok))
  unfold maxLen at hn
  clear hr hl hok
  go_enter Tryd.func9, Tryd.ntmps9
  by_cases h20 : 20 < n
  · have h20' : (20 : Int) < (n : Int) := by omega
    go_wp2_with fail
    go_ret
    exact ⟨rfl, .inl rfl⟩
  have h20' : ¬ (20 : Int) < (n : Int) := by omega
  go_wp2_with fail
  go_loopw [3] (fun s3 wr => w = wr ∧ ∃ i : Nat, i ≤ n ∧ s3 = .int .i64 i ∧ ∀ m < i, ∀ x, l[m]? = some x → x.n ≤ 12 ∧ ∀ t ∈ x.l, t.whr.size ≤ 100) (fun s3 _ => n - (intOf s3).toNat)
  case atStart => exact ⟨rfl, 0, by omega, rfl, fun m hm => by omega⟩
  case round =>
    obtain ⟨rfl, i, hi, rfl, hsm⟩ := hrel
    have i0 : (0 : Int) ≤ (i : Int) := by omega
    have HS := hide hsm
    clear hsm
    by_cases hin : i < n
    · have i1 : (i : Int) < (n : Int) := by omega
      obtain ⟨x, hx⟩ : ∃ x, l[i]? = some x := ⟨l[i]'(by have := HR.out.2.1; omega), by simp⟩
      obtain ⟨b, off, rfl, hb, hcl⟩ := HR.out.1.at_ encR_len hx HR.out.2.1
      have a0 := hcl 0 (.slice x.A x.n x.c) rfl
      rw [Nat.mul_one, Nat.add_zero] at a0
      obtain ⟨xl, xm, hxr⟩ := HR.out.2.2 x (List.mem_of_getElem? hx)
      unfold maxLen at xm
      have Hx := hide (And.intro hx (And.intro xl hxr))
      clear hcl hx xl hxr
      obtain ⟨xA, xn, xc, xL⟩ := x
      dsimp only at *
      by_cases h12 : 12 < xn
      · have h12' : (12 : Int) < (xn : Int) := by omega
        go_wp2_with fail
        go_ret
        exact ⟨rfl, .inl rfl⟩
      have h12' : ¬ (12 : Int) < (xn : Int) := by omega
      go_wp2_with fail
      go_loopw [4] (fun s4 wr => w = wr ∧ ∃ k : Nat, k ≤ xn ∧ s4 = .int .i64 k ∧ ∀ m < k, ∀ t, xL[m]? = some t → t.whr.size ≤ 100) (fun s4 _ => xn - (intOf s4).toNat)
      case atStart => exact ⟨rfl, 0, by omega, rfl, fun m hm => by omega⟩
      case round =>
        obtain ⟨rfl, k, hk, rfl, hsm⟩ := hrel
        have k0 : (0 : Int) ≤ (k : Int) := by omega
        have HS2 := hide hsm
        clear hsm
        by_cases hkn : k < xn
        · have k1 : (k : Int) < (xn : Int) := by omega
          obtain ⟨t, ht⟩ : ∃ t, xL[k]? = some t := ⟨xL[k]'(by have := Hx.out.2.1; omega), by simp⟩
          obtain ⟨b2, off2, rfl, hb2, hcl⟩ := Hx.out.2.2.at_ encT_len ht Hx.out.2.1
          have a1 := hcl 1 (.string t.whr) rfl
          rw [← Nat.add_assoc] at a1
          have Ht := hide ht
          clear hcl ht
          by_cases hsz : 100 < t.whr.size
          · have hsz' : (100 : Int) < (t.whr.size : Int) := by omega
            go_wp2_with fail
            go_ret
            exact ⟨rfl, .inl rfl⟩
          · have hsz' : ¬ (100 : Int) < (t.whr.size : Int) := by omega
            go_wp2_with fail
            go_roundw
            case rel =>
              refine ⟨trivial, k + 1, by omega, by go_num, fun m hm t' ht' => ?_⟩
              rcases Nat.lt_or_ge m k with hlt | hge
              · exact HS2.out m hlt t' ht'
              · obtain rfl : m = k := by omega
                obtain rfl := Option.some.inj (Ht.out.symm.trans ht')
                omega
            case measure => simp [intOf]; omega
        · obtain rfl : k = xn := by omega
          go_wp2_with fail
          go_roundw
          case rel =>
            refine ⟨trivial, i + 1, by omega, by go_num, fun m hm x' hx' => ?_⟩
            rcases Nat.lt_or_ge m i with hlt | hge
            · exact HS.out m hlt x' hx'
            · obtain rfl : m = i := by omega
              obtain rfl := Option.some.inj (Hx.out.1.symm.trans hx')
              refine ⟨by show k ≤ 12; omega, fun t ht => ?_⟩
              obtain ⟨q, hq⟩ := List.getElem?_of_mem ht
              have hql := (List.getElem?_eq_some_iff.1 hq).1
              have hlen := Hx.out.2.1
              dsimp only at hq hql
              exact HS2.out q (by omega) t hq
          case measure => simp [intOf]; omega
    · obtain rfl : i = n := by omega
      go_wp2_with fail
      go_ret
      refine ⟨rfl, .inr ⟨rfl, by omega, fun x hx => ?_⟩⟩
      obtain ⟨q, hq⟩ := List.getElem?_of_mem hx
      have hql := (List.getElem?_eq_some_iff.1 hq).1
      have hlen := HR.out.2.1
      exact HS.out q (by omega) x hq
end Go.Proofs.YtmjdnmpiheaidaaDoor

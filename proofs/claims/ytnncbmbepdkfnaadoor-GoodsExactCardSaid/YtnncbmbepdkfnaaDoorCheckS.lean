/- schema.Check. -/
import Derived.Test.YtnncbmbepdkfnaaDoorRes
namespace Go.Proofs.YtnncbmbepdkfnaaDoor
open Go.RowKit
def compsFl (s : Sa) (k : Nat) : List Ch := (List.range k).flatMap fun i => (s.cs[i]?.map (compFl s.cn i)).getD []
def ressFl (s : Sa) (k : Nat) : List Ch := (List.range k).flatMap fun i => (s.rs[i]?.map (resFl s.cn s.rn i)).getD []
theorem compsFl_succ {s : Sa} {k : Nat} {x : Cp} (hx : s.cs[k]? = some x) : compsFl s (k + 1) = compsFl s k ++ compFl s.cn k x := by
  unfold compsFl
  rw [List.range_succ, List.flatMap_append]
  simp [hx]
theorem ressFl_succ {s : Sa} {k : Nat} {x : Rs} (hx : s.rs[k]? = some x) : ressFl s (k + 1) = ressFl s k ++ resFl s.cn s.rn k x := by
  unfold ressFl
  rw [List.range_succ, List.flatMap_append]
  simp [hx]
theorem widthFl_len (i : Nat) (x : Cp) : (widthFl i x).length ≤ 1 := by
  unfold widthFl
  split
  · split <;> simp
  · simp
theorem compsFl_len (s : Sa) (k : Nat) : (compsFl s k).length ≤ 2 * k := by
  induction k with
  | zero => simp [compsFl]
  | succ k ih =>
    cases hx : s.cs[k]? with
    | some x =>
      rw [compsFl_succ hx, List.length_append]
      have h1 := nameFl_len sComps k x.name (takenC s.cn x.name k)
      have h2 := widthFl_len k x
      unfold compFl
      rw [List.length_append]; omega
    | none =>
      have : compsFl s (k + 1) = compsFl s k := by
        unfold compsFl
        rw [List.range_succ, List.flatMap_append]
        simp [hx]
      rw [this]; omega
theorem ressFl_len (s : Sa) (k : Nat) : (ressFl s k).length ≤ k := by
  induction k with
  | zero => simp [ressFl]
  | succ k ih =>
    cases hx : s.rs[k]? with
    | some x =>
      rw [ressFl_succ hx, List.length_append]
      have h1 := nameFl_len sRess k x.name ((findI s.cn x.name).isSome || takenC s.rn x.name k)
      unfold resFl
      omega
    | none =>
      have : ressFl s (k + 1) = ressFl s k := by
        unfold ressFl
        rw [List.range_succ, List.flatMap_append]
        simp [hx]
      rw [this]; omega
def longFl (k : ByteArray) (b : Bool) : List Ch := if b = true then [([k], 4)] else []
theorem longFl_len (k : ByteArray) (b : Bool) : (longFl k b).length ≤ 1 := by unfold longFl; split <;> simp
/-- all that is wrong -/
def allFl (s : Sa) : List Ch := longFl sComps (decide (16 < s.n1)) ++ compsFl s s.n1 ++ longFl sRess (decide (8 < s.n2)) ++ ressFl s s.n2
theorem row1 (w : World) (a : ByteArray) : (w.alloc (.cells #[.string a] 9)).ownsRow 0 9 1 (.slice (some ⟨w.heap.size, 0, none⟩) 1 1) 1 ([a].map Value.string) :=
  row_mk (Blk.new w _ _) (Nat.zero_le _) (Nat.le_refl _) (by simp [maxLen]) rfl rfl
set_option maxRecDepth 100000 in
set_option maxHeartbeats 8000000 in
theorem check_calls {B : Nat} {w : World} {ad : Nat → Addr} {K : List Nat} (hK : K5 K) (hs : Sents K B w ad) {s : Sa} (hS : SaOk w B s) :
    Calls Tryd.prog 27 #[s.val] w fun e w' => ∃ v, e = .returned v ∧ EV w' ad v (allFl s) ∧ Fr [] w w' := by
  have hb1 := hS.b1
  have hb2 := hS.b2
  have hc1 := compsFl_len s s.n1
  have hc2 := ressFl_len s s.n2
  have hlC := longFl_len sComps (decide (16 < s.n1))
  have hlR := longFl_len sRess (decide (8 < s.n2))
  have hBw := hs.le
  have HH := hide (And.intro hs hS)
  have HLn := hide (And.intro hc1 (And.intro hc2 (And.intro hlC hlR)))
  clear hs hS hc1 hc2 hlC hlR
  have hval : s.val = .agg #[.slice s.A1 s.n1 s.c1, .slice s.A2 s.n2 s.c2] := rfl
  have hall : allFl s = longFl sComps (decide (16 < s.n1)) ++ compsFl s s.n1 ++ longFl sRess (decide (8 < s.n2)) ++ ressFl s s.n2 := rfl
  have Hall := hide hall
  rw [hval]
  clear hall hval
  go_enter Tryd.func27, Tryd.ntmps27
  go_upto_region 2 with (fail)
  have hbS : Blk ((w.alloc (.cells #[.slice s.A1 s.n1 s.c1, .slice s.A2 s.n2 s.c2] 32)).alloc (.cells #[.slice none 0 0] 88)) w.heap.size 32 #[.slice s.A1 s.n1 s.c1, .slice s.A2 s.n2 s.c2] := (Blk.new w _ _).alloc _
  have hbF : Blk ((w.alloc (.cells #[.slice s.A1 s.n1 s.c1, .slice s.A2 s.n2 s.c2] 32)).alloc (.cells #[.slice none 0 0] 88)) (w.heap.size + 1) 88 #[.slice none 0 0] := Blk.new_at _ _ _ _ (by simp)
  have hf2 : Fr [] w ((w.alloc (.cells #[.slice s.A1 s.n1 s.c1, .slice s.A2 s.n2 s.c2] 32)).alloc (.cells #[.slice none 0 0] 88)) := ((Fr.refl _ _).alloc _).alloc _
  generalize (w.alloc (.cells #[.slice s.A1 s.n1 s.c1, .slice s.A2 s.n2 s.c2] 32)).alloc (.cells #[.slice none 0 0] 88) = w2 at *
  have hFI2 : FI B w2 ad (w.heap.size + 1) [w.heap.size + 1] [] := ⟨.slice none 0 0, [], rfl, by omega, hbF, World.ownsRow_nil _ _ _ _, HL.nil⟩
  have hs2 := HH.out.1.fr0 hf2
  have g4 := hs2.cell 4 hK.m4
  have lg4 := Nat.lt_of_lt_of_le (hs2.glob 4 hK.m4) hs2.le
  have e4 : gOf 4 = 3 := rfl
  rw [e4] at g4 lg4
  have q0 := hbS.at_ 0 (v := .slice s.A1 s.n1 s.c1) rfl
  have q1 := hbS.at_ 1 (v := .slice s.A2 s.n2 s.c2) rfl
  have lq := hbS.lt
  have H2 := hide (And.intro hbS (And.intro hFI2 (And.intro hf2 hs2)))
  clear hbS hbF hf2 hFI2 hs2 e4
  by_cases h16 : 16 < s.n1
  · have h16' : (16 : Int) < (s.n1 : Int) := by omega
    have hL3 : longFl sComps (decide (16 < s.n1)) = [([sComps], 4)] := by rw [decide_eq_true h16]; rfl
    have HL3 := hide hL3
    clear hL3
    go_wp2_with fail
    refine (note_calls (H2.out.2.1.fr0 ((Fr.refl [] w2).alloc _)) (by simp) (k := 4) (by omega) (by omega) (zs := [sComps]) (cap := 1) (b := w2.heap.size) (by simp) (row1 w2 sComps)).mono ?_
    rintro e w3 ⟨rfl, S3, hFI3, hst3⟩
    have H3 := hide (And.intro (show FI B w3 ad (w.heap.size + 1) S3 (longFl sComps (decide (16 < s.n1))) by rw [HL3.out]; exact hFI3) (hst3.pre ((Fr.refl [] w2).alloc _)))
    clear hFI3 hst3
    have hq3 : Blk w3 w.heap.size 32 #[.slice s.A1 s.n1 s.c1, .slice s.A2 s.n2 s.c2] := H2.out.1.fr H3.out.2.1 (by simp)
    have p0 := hq3.at_ 0 (v := .slice s.A1 s.n1 s.c1) rfl
    have p1 := hq3.at_ 1 (v := .slice s.A2 s.n2 s.c2) rfl
    have lp := hq3.lt
    clear hq3
    go_wp2_with fail
    go_loopw [4, 19] (fun _ s19 wr => ∃ (i : Nat) (S : List Nat), i ≤ s.n1 ∧ s19 = .int .i64 i ∧ FI B wr ad (w.heap.size + 1) S (longFl sComps (decide (16 < s.n1)) ++ compsFl s i) ∧ Stp [w.heap.size + 1] S w2 wr) (fun _ s19 _ => s.n1 - (intOf s19).toNat)
    case atStart => exact ⟨0, S3, by omega, rfl, by simpa [compsFl] using H3.out.1, H3.out.2⟩
    case round =>
      obtain ⟨i, S, hi, rfl, hFI, hst⟩ := hrel
      have i0 : (0 : Int) ≤ (i : Int) := by omega
      have hsr := H2.out.2.2.2.fr hst.1 (H2.out.2.1.ge)
      have hSr := (HH.out.2.fr H2.out.2.2.1 (by simp) hBw).fr hst.1 H2.out.2.1.ge H2.out.2.2.2.le
      have hqr : Blk wr w.heap.size 32 #[.slice s.A1 s.n1 s.c1, .slice s.A2 s.n2 s.c2] := H2.out.1.fr hst.1 (by simp)
      have r0 := hqr.at_ 0 (v := .slice s.A1 s.n1 s.c1) rfl
      have r1 := hqr.at_ 1 (v := .slice s.A2 s.n2 s.c2) rfl
      have lr := hqr.lt
      have hlen : (longFl sComps (decide (16 < s.n1)) ++ compsFl s i).length ≤ 100 := by
        have h1 := compsFl_len s i
        have h2 := HLn.out.2.2.1
        rw [List.length_append]; omega
      by_cases hin : i < s.n1
      · have i1 : (i : Int) < (s.n1 : Int) := by omega
        obtain ⟨x, hx⟩ : ∃ x, s.cs[i]? = some x := ⟨s.cs[i]'(by have := hSr.l1; omega), by simp⟩
        have HC_ := hide (comp_calls hK hsr hFI (by omega) hSr hx)
        have Hst := hide (And.intro hst (compsFl_succ hx))
        clear hsr hSr hqr hFI hst hx hlen
        go_wp2_with fail
        refine HC_.out.mono ?_
        rintro e w5 ⟨rfl, S5, hFI5, hst5⟩
        have H5 := hide (And.intro hFI5 (Hst.out.1.trans hst5))
        clear hFI5 hst5
        go_wp2_with fail
        go_roundw
        case rel =>
          refine ⟨i + 1, S5, by omega, by go_num, ?_, H5.out.2⟩
          rw [Hst.out.2, ← List.append_assoc]
          exact H5.out.1
        case measure => simp [intOf]; omega
      · have hie : i = s.n1 := by omega
        have hnl : ¬ (i : Int) < (s.n1 : Int) := by omega
        rw [hie] at hFI hlen
        have g5 := hsr.cell 4 hK.m4
        have lg5 := Nat.lt_of_lt_of_le (hsr.glob 4 hK.m4) hsr.le
        have e5 : gOf 4 = 3 := rfl
        rw [e5] at g5 lg5
        have H5 := hide (And.intro hFI (And.intro hst hlen))
        clear hsr hSr hqr hFI hst hlen hie e5
        by_cases h8 : 8 < s.n2
        · have h8' : (8 : Int) < (s.n2 : Int) := by omega
          have hL6 : longFl sRess (decide (8 < s.n2)) = [([sRess], 4)] := by rw [decide_eq_true h8]; rfl
          have HL6 := hide hL6
          clear hL6
          go_wp2_with fail
          refine (note_calls (H5.out.1.fr0 ((Fr.refl [] wr).alloc _)) (by have := H5.out.2.2; omega) (k := 4) (by omega) (by omega) (zs := [sRess]) (cap := 1) (b := wr.heap.size) (by simp) (row1 wr sRess)).mono ?_
          rintro e w6 ⟨rfl, S6, hFI6, hst6⟩
          have H6 := hide (And.intro (show FI B w6 ad (w.heap.size + 1) S6 (longFl sComps (decide (16 < s.n1)) ++ compsFl s s.n1 ++ longFl sRess (decide (8 < s.n2))) by rw [HL6.out]; exact hFI6) (H5.out.2.1.trans (hst6.pre ((Fr.refl [] wr).alloc _))))
          clear hFI6 hst6
          have hq6 : Blk w6 w.heap.size 32 #[.slice s.A1 s.n1 s.c1, .slice s.A2 s.n2 s.c2] := H2.out.1.fr H6.out.2.1 (by simp)
          have t0 := hq6.at_ 0 (v := .slice s.A1 s.n1 s.c1) rfl
          have t1 := hq6.at_ 1 (v := .slice s.A2 s.n2 s.c2) rfl
          have lt6 := hq6.lt
          clear hq6
          go_wp2_with fail
          go_loopw [5, 38] (fun _ s38 w7 => ∃ (k : Nat) (S : List Nat), k ≤ s.n2 ∧ s38 = .int .i64 k ∧ FI B w7 ad (w.heap.size + 1) S (longFl sComps (decide (16 < s.n1)) ++ compsFl s s.n1 ++ longFl sRess (decide (8 < s.n2)) ++ ressFl s k) ∧ Stp [w.heap.size + 1] S w2 w7) (fun _ s38 _ => s.n2 - (intOf s38).toNat)
          case atStart => exact ⟨0, S6, by omega, rfl, by simpa [ressFl] using H6.out.1, H6.out.2⟩
          case round =>
            obtain ⟨k, S7, hk, rfl, hFI, hst⟩ := hrel
            have k0 : (0 : Int) ≤ (k : Int) := by omega
            have hsr := H2.out.2.2.2.fr hst.1 (H2.out.2.1.ge)
            have hSr := (HH.out.2.fr H2.out.2.2.1 (by simp) hBw).fr hst.1 H2.out.2.1.ge H2.out.2.2.2.le
            have hqr : Blk wr w.heap.size 32 #[.slice s.A1 s.n1 s.c1, .slice s.A2 s.n2 s.c2] := H2.out.1.fr hst.1 (by simp)
            have u0_ := hqr.at_ 0 (v := .slice s.A1 s.n1 s.c1) rfl
            have u1_ := hqr.at_ 1 (v := .slice s.A2 s.n2 s.c2) rfl
            have lu := hqr.lt
            have hlen : (longFl sComps (decide (16 < s.n1)) ++ compsFl s s.n1 ++ longFl sRess (decide (8 < s.n2)) ++ ressFl s k).length ≤ 200 := by
              have h1 := ressFl_len s k
              have h2 := HLn.out
              rw [List.length_append, List.length_append, List.length_append]; omega
            by_cases hkn : k < s.n2
            · have k1 : (k : Int) < (s.n2 : Int) := by omega
              obtain ⟨x, hx⟩ : ∃ x, s.rs[k]? = some x := ⟨s.rs[k]'(by have := hSr.l2; omega), by simp⟩
              have HC_ := hide (resf_calls hK hsr hFI (by omega) hSr hx)
              have Hst := hide (And.intro hst (ressFl_succ hx))
              clear hsr hSr hqr hFI hst hx hlen
              go_wp2_with fail
              refine HC_.out.mono ?_
              rintro e w8 ⟨rfl, S8, hFI8, hst8⟩
              have H8 := hide (And.intro hFI8 (Hst.out.1.trans hst8))
              clear hFI8 hst8
              go_wp2_with fail
              go_roundw
              case rel =>
                refine ⟨k + 1, S8, by omega, by go_num, ?_, H8.out.2⟩
                rw [Hst.out.2, ← List.append_assoc]
                exact H8.out.1
              case measure => simp [intOf]; omega
            · have hke : k = s.n2 := by omega
              have hnk : ¬ (k : Int) < (s.n2 : Int) := by omega
              rw [hke, ← Hall.out] at hFI
              rw [hke, ← Hall.out] at hlen
              obtain ⟨sl, vs, hS7, hBg, hg, hE, hL⟩ := hFI
              have f0 := hg.at_ 0 (v := sl) rfl
              have lf := hg.lt
              have hEL := hL.el
              have HAll := hide (all_ev (v := sl) (vs := vs) (css := (allFl s).map fun c => [c]) (by rw [List.length_map]; exact hE) hEL (by rw [List.length_map]; omega) (by rw [show ((allFl s).map fun c => [c]).flatten = allFl s by induction (allFl s) with | nil => rfl | cons a r ih => simp [ih]]; omega))
              rw [show ((allFl s).map fun c => [c]).flatten = allFl s by induction (allFl s) with | nil => rfl | cons a r ih => simp [ih]] at HAll
              have Hst := hide hst
              clear hsr hSr hqr hst hlen hke hg hE hL hEL hS7
              go_wp2_with fail
              refine HAll.out.mono ?_
              rintro e w9 ⟨v9, rfl, hv9, hf9⟩
              have H9 := hide (And.intro hv9 hf9)
              clear hv9 hf9
              go_wp2_with fail
              go_ret
              exact ⟨_, rfl, H9.out.1, (H2.out.2.2.1.step Hst.out.1 (by simp)).trans H9.out.2⟩

        · have h8' : ¬ (8 : Int) < (s.n2 : Int) := by omega
          have hL6 : longFl sRess (decide (8 < s.n2)) = [] := by rw [decide_eq_false h8]; rfl
          have HL6 := hide hL6
          clear hL6
          have H6 : Hid (FI B wr ad (w.heap.size + 1) S (longFl sComps (decide (16 < s.n1)) ++ compsFl s s.n1 ++ longFl sRess (decide (8 < s.n2))) ∧ Stp [w.heap.size + 1] S w2 wr) := hide ⟨by rw [HL6.out, List.append_nil]; exact H5.out.1, H5.out.2.1⟩
          have hq6 : Blk wr w.heap.size 32 #[.slice s.A1 s.n1 s.c1, .slice s.A2 s.n2 s.c2] := H2.out.1.fr H6.out.2.1 (by simp)
          have t0 := hq6.at_ 0 (v := .slice s.A1 s.n1 s.c1) rfl
          have t1 := hq6.at_ 1 (v := .slice s.A2 s.n2 s.c2) rfl
          have lt6 := hq6.lt
          clear hq6
          go_wp2_with fail
          go_loopw [5, 38] (fun _ s38 w7 => ∃ (k : Nat) (S : List Nat), k ≤ s.n2 ∧ s38 = .int .i64 k ∧ FI B w7 ad (w.heap.size + 1) S (longFl sComps (decide (16 < s.n1)) ++ compsFl s s.n1 ++ longFl sRess (decide (8 < s.n2)) ++ ressFl s k) ∧ Stp [w.heap.size + 1] S w2 w7) (fun _ s38 _ => s.n2 - (intOf s38).toNat)
          case atStart => exact ⟨0, S, by omega, rfl, by simpa [ressFl] using H6.out.1, H6.out.2⟩
          case round =>
            obtain ⟨k, S7, hk, rfl, hFI, hst⟩ := hrel
            have k0 : (0 : Int) ≤ (k : Int) := by omega
            have hsr := H2.out.2.2.2.fr hst.1 (H2.out.2.1.ge)
            have hSr := (HH.out.2.fr H2.out.2.2.1 (by simp) hBw).fr hst.1 H2.out.2.1.ge H2.out.2.2.2.le
            have hqr : Blk wr w.heap.size 32 #[.slice s.A1 s.n1 s.c1, .slice s.A2 s.n2 s.c2] := H2.out.1.fr hst.1 (by simp)
            have u0_ := hqr.at_ 0 (v := .slice s.A1 s.n1 s.c1) rfl
            have u1_ := hqr.at_ 1 (v := .slice s.A2 s.n2 s.c2) rfl
            have lu := hqr.lt
            have hlen : (longFl sComps (decide (16 < s.n1)) ++ compsFl s s.n1 ++ longFl sRess (decide (8 < s.n2)) ++ ressFl s k).length ≤ 200 := by
              have h1 := ressFl_len s k
              have h2 := HLn.out
              rw [List.length_append, List.length_append, List.length_append]; omega
            by_cases hkn : k < s.n2
            · have k1 : (k : Int) < (s.n2 : Int) := by omega
              obtain ⟨x, hx⟩ : ∃ x, s.rs[k]? = some x := ⟨s.rs[k]'(by have := hSr.l2; omega), by simp⟩
              have HC_ := hide (resf_calls hK hsr hFI (by omega) hSr hx)
              have Hst := hide (And.intro hst (ressFl_succ hx))
              clear hsr hSr hqr hFI hst hx hlen
              go_wp2_with fail
              refine HC_.out.mono ?_
              rintro e w8 ⟨rfl, S8, hFI8, hst8⟩
              have H8 := hide (And.intro hFI8 (Hst.out.1.trans hst8))
              clear hFI8 hst8
              go_wp2_with fail
              go_roundw
              case rel =>
                refine ⟨k + 1, S8, by omega, by go_num, ?_, H8.out.2⟩
                rw [Hst.out.2, ← List.append_assoc]
                exact H8.out.1
              case measure => simp [intOf]; omega
            · have hke : k = s.n2 := by omega
              have hnk : ¬ (k : Int) < (s.n2 : Int) := by omega
              rw [hke, ← Hall.out] at hFI
              rw [hke, ← Hall.out] at hlen
              obtain ⟨sl, vs, hS7, hBg, hg, hE, hL⟩ := hFI
              have f0 := hg.at_ 0 (v := sl) rfl
              have lf := hg.lt
              have hEL := hL.el
              have HAll := hide (all_ev (v := sl) (vs := vs) (css := (allFl s).map fun c => [c]) (by rw [List.length_map]; exact hE) hEL (by rw [List.length_map]; omega) (by rw [show ((allFl s).map fun c => [c]).flatten = allFl s by induction (allFl s) with | nil => rfl | cons a r ih => simp [ih]]; omega))
              rw [show ((allFl s).map fun c => [c]).flatten = allFl s by induction (allFl s) with | nil => rfl | cons a r ih => simp [ih]] at HAll
              have Hst := hide hst
              clear hsr hSr hqr hst hlen hke hg hE hL hEL hS7
              go_wp2_with fail
              refine HAll.out.mono ?_
              rintro e w9 ⟨v9, rfl, hv9, hf9⟩
              have H9 := hide (And.intro hv9 hf9)
              clear hv9 hf9
              go_wp2_with fail
              go_ret
              exact ⟨_, rfl, H9.out.1, (H2.out.2.2.1.step Hst.out.1 (by simp)).trans H9.out.2⟩


  · have h16' : ¬ (16 : Int) < (s.n1 : Int) := by omega
    have hL3 : longFl sComps (decide (16 < s.n1)) = [] := by rw [decide_eq_false h16]; rfl
    have HL3 := hide hL3
    clear hL3
    have H3 : Hid (FI B w2 ad (w.heap.size + 1) [w.heap.size + 1] (longFl sComps (decide (16 < s.n1))) ∧ Stp [w.heap.size + 1] [w.heap.size + 1] w2 w2) := hide ⟨by rw [HL3.out]; exact H2.out.2.1, Stp.same (Fr.refl _ _)⟩
    have hq3 : Blk w2 w.heap.size 32 #[.slice s.A1 s.n1 s.c1, .slice s.A2 s.n2 s.c2] := H2.out.1.fr H3.out.2.1 (by simp)
    have p0 := hq3.at_ 0 (v := .slice s.A1 s.n1 s.c1) rfl
    have p1 := hq3.at_ 1 (v := .slice s.A2 s.n2 s.c2) rfl
    have lp := hq3.lt
    clear hq3
    go_wp2_with fail
    go_loopw [4, 19] (fun _ s19 wr => ∃ (i : Nat) (S : List Nat), i ≤ s.n1 ∧ s19 = .int .i64 i ∧ FI B wr ad (w.heap.size + 1) S (longFl sComps (decide (16 < s.n1)) ++ compsFl s i) ∧ Stp [w.heap.size + 1] S w2 wr) (fun _ s19 _ => s.n1 - (intOf s19).toNat)
    case atStart => exact ⟨0, [w.heap.size + 1], by omega, rfl, by simpa [compsFl] using H3.out.1, H3.out.2⟩
    case round =>
      obtain ⟨i, S, hi, rfl, hFI, hst⟩ := hrel
      have i0 : (0 : Int) ≤ (i : Int) := by omega
      have hsr := H2.out.2.2.2.fr hst.1 (H2.out.2.1.ge)
      have hSr := (HH.out.2.fr H2.out.2.2.1 (by simp) hBw).fr hst.1 H2.out.2.1.ge H2.out.2.2.2.le
      have hqr : Blk wr w.heap.size 32 #[.slice s.A1 s.n1 s.c1, .slice s.A2 s.n2 s.c2] := H2.out.1.fr hst.1 (by simp)
      have r0 := hqr.at_ 0 (v := .slice s.A1 s.n1 s.c1) rfl
      have r1 := hqr.at_ 1 (v := .slice s.A2 s.n2 s.c2) rfl
      have lr := hqr.lt
      have hlen : (longFl sComps (decide (16 < s.n1)) ++ compsFl s i).length ≤ 100 := by
        have h1 := compsFl_len s i
        have h2 := HLn.out.2.2.1
        rw [List.length_append]; omega
      by_cases hin : i < s.n1
      · have i1 : (i : Int) < (s.n1 : Int) := by omega
        obtain ⟨x, hx⟩ : ∃ x, s.cs[i]? = some x := ⟨s.cs[i]'(by have := hSr.l1; omega), by simp⟩
        have HC_ := hide (comp_calls hK hsr hFI (by omega) hSr hx)
        have Hst := hide (And.intro hst (compsFl_succ hx))
        clear hsr hSr hqr hFI hst hx hlen
        go_wp2_with fail
        refine HC_.out.mono ?_
        rintro e w5 ⟨rfl, S5, hFI5, hst5⟩
        have H5 := hide (And.intro hFI5 (Hst.out.1.trans hst5))
        clear hFI5 hst5
        go_wp2_with fail
        go_roundw
        case rel =>
          refine ⟨i + 1, S5, by omega, by go_num, ?_, H5.out.2⟩
          rw [Hst.out.2, ← List.append_assoc]
          exact H5.out.1
        case measure => simp [intOf]; omega
      · have hie : i = s.n1 := by omega
        have hnl : ¬ (i : Int) < (s.n1 : Int) := by omega
        rw [hie] at hFI hlen
        have g5 := hsr.cell 4 hK.m4
        have lg5 := Nat.lt_of_lt_of_le (hsr.glob 4 hK.m4) hsr.le
        have e5 : gOf 4 = 3 := rfl
        rw [e5] at g5 lg5
        have H5 := hide (And.intro hFI (And.intro hst hlen))
        clear hsr hSr hqr hFI hst hlen hie e5
        by_cases h8 : 8 < s.n2
        · have h8' : (8 : Int) < (s.n2 : Int) := by omega
          have hL6 : longFl sRess (decide (8 < s.n2)) = [([sRess], 4)] := by rw [decide_eq_true h8]; rfl
          have HL6 := hide hL6
          clear hL6
          go_wp2_with fail
          refine (note_calls (H5.out.1.fr0 ((Fr.refl [] wr).alloc _)) (by have := H5.out.2.2; omega) (k := 4) (by omega) (by omega) (zs := [sRess]) (cap := 1) (b := wr.heap.size) (by simp) (row1 wr sRess)).mono ?_
          rintro e w6 ⟨rfl, S6, hFI6, hst6⟩
          have H6 := hide (And.intro (show FI B w6 ad (w.heap.size + 1) S6 (longFl sComps (decide (16 < s.n1)) ++ compsFl s s.n1 ++ longFl sRess (decide (8 < s.n2))) by rw [HL6.out]; exact hFI6) (H5.out.2.1.trans (hst6.pre ((Fr.refl [] wr).alloc _))))
          clear hFI6 hst6
          have hq6 : Blk w6 w.heap.size 32 #[.slice s.A1 s.n1 s.c1, .slice s.A2 s.n2 s.c2] := H2.out.1.fr H6.out.2.1 (by simp)
          have t0 := hq6.at_ 0 (v := .slice s.A1 s.n1 s.c1) rfl
          have t1 := hq6.at_ 1 (v := .slice s.A2 s.n2 s.c2) rfl
          have lt6 := hq6.lt
          clear hq6
          go_wp2_with fail
          go_loopw [5, 38] (fun _ s38 w7 => ∃ (k : Nat) (S : List Nat), k ≤ s.n2 ∧ s38 = .int .i64 k ∧ FI B w7 ad (w.heap.size + 1) S (longFl sComps (decide (16 < s.n1)) ++ compsFl s s.n1 ++ longFl sRess (decide (8 < s.n2)) ++ ressFl s k) ∧ Stp [w.heap.size + 1] S w2 w7) (fun _ s38 _ => s.n2 - (intOf s38).toNat)
          case atStart => exact ⟨0, S6, by omega, rfl, by simpa [ressFl] using H6.out.1, H6.out.2⟩
          case round =>
            obtain ⟨k, S7, hk, rfl, hFI, hst⟩ := hrel
            have k0 : (0 : Int) ≤ (k : Int) := by omega
            have hsr := H2.out.2.2.2.fr hst.1 (H2.out.2.1.ge)
            have hSr := (HH.out.2.fr H2.out.2.2.1 (by simp) hBw).fr hst.1 H2.out.2.1.ge H2.out.2.2.2.le
            have hqr : Blk wr w.heap.size 32 #[.slice s.A1 s.n1 s.c1, .slice s.A2 s.n2 s.c2] := H2.out.1.fr hst.1 (by simp)
            have u0_ := hqr.at_ 0 (v := .slice s.A1 s.n1 s.c1) rfl
            have u1_ := hqr.at_ 1 (v := .slice s.A2 s.n2 s.c2) rfl
            have lu := hqr.lt
            have hlen : (longFl sComps (decide (16 < s.n1)) ++ compsFl s s.n1 ++ longFl sRess (decide (8 < s.n2)) ++ ressFl s k).length ≤ 200 := by
              have h1 := ressFl_len s k
              have h2 := HLn.out
              rw [List.length_append, List.length_append, List.length_append]; omega
            by_cases hkn : k < s.n2
            · have k1 : (k : Int) < (s.n2 : Int) := by omega
              obtain ⟨x, hx⟩ : ∃ x, s.rs[k]? = some x := ⟨s.rs[k]'(by have := hSr.l2; omega), by simp⟩
              have HC_ := hide (resf_calls hK hsr hFI (by omega) hSr hx)
              have Hst := hide (And.intro hst (ressFl_succ hx))
              clear hsr hSr hqr hFI hst hx hlen
              go_wp2_with fail
              refine HC_.out.mono ?_
              rintro e w8 ⟨rfl, S8, hFI8, hst8⟩
              have H8 := hide (And.intro hFI8 (Hst.out.1.trans hst8))
              clear hFI8 hst8
              go_wp2_with fail
              go_roundw
              case rel =>
                refine ⟨k + 1, S8, by omega, by go_num, ?_, H8.out.2⟩
                rw [Hst.out.2, ← List.append_assoc]
                exact H8.out.1
              case measure => simp [intOf]; omega
            · have hke : k = s.n2 := by omega
              have hnk : ¬ (k : Int) < (s.n2 : Int) := by omega
              rw [hke, ← Hall.out] at hFI
              rw [hke, ← Hall.out] at hlen
              obtain ⟨sl, vs, hS7, hBg, hg, hE, hL⟩ := hFI
              have f0 := hg.at_ 0 (v := sl) rfl
              have lf := hg.lt
              have hEL := hL.el
              have HAll := hide (all_ev (v := sl) (vs := vs) (css := (allFl s).map fun c => [c]) (by rw [List.length_map]; exact hE) hEL (by rw [List.length_map]; omega) (by rw [show ((allFl s).map fun c => [c]).flatten = allFl s by induction (allFl s) with | nil => rfl | cons a r ih => simp [ih]]; omega))
              rw [show ((allFl s).map fun c => [c]).flatten = allFl s by induction (allFl s) with | nil => rfl | cons a r ih => simp [ih]] at HAll
              have Hst := hide hst
              clear hsr hSr hqr hst hlen hke hg hE hL hEL hS7
              go_wp2_with fail
              refine HAll.out.mono ?_
              rintro e w9 ⟨v9, rfl, hv9, hf9⟩
              have H9 := hide (And.intro hv9 hf9)
              clear hv9 hf9
              go_wp2_with fail
              go_ret
              exact ⟨_, rfl, H9.out.1, (H2.out.2.2.1.step Hst.out.1 (by simp)).trans H9.out.2⟩

        · have h8' : ¬ (8 : Int) < (s.n2 : Int) := by omega
          have hL6 : longFl sRess (decide (8 < s.n2)) = [] := by rw [decide_eq_false h8]; rfl
          have HL6 := hide hL6
          clear hL6
          have H6 : Hid (FI B wr ad (w.heap.size + 1) S (longFl sComps (decide (16 < s.n1)) ++ compsFl s s.n1 ++ longFl sRess (decide (8 < s.n2))) ∧ Stp [w.heap.size + 1] S w2 wr) := hide ⟨by rw [HL6.out, List.append_nil]; exact H5.out.1, H5.out.2.1⟩
          have hq6 : Blk wr w.heap.size 32 #[.slice s.A1 s.n1 s.c1, .slice s.A2 s.n2 s.c2] := H2.out.1.fr H6.out.2.1 (by simp)
          have t0 := hq6.at_ 0 (v := .slice s.A1 s.n1 s.c1) rfl
          have t1 := hq6.at_ 1 (v := .slice s.A2 s.n2 s.c2) rfl
          have lt6 := hq6.lt
          clear hq6
          go_wp2_with fail
          go_loopw [5, 38] (fun _ s38 w7 => ∃ (k : Nat) (S : List Nat), k ≤ s.n2 ∧ s38 = .int .i64 k ∧ FI B w7 ad (w.heap.size + 1) S (longFl sComps (decide (16 < s.n1)) ++ compsFl s s.n1 ++ longFl sRess (decide (8 < s.n2)) ++ ressFl s k) ∧ Stp [w.heap.size + 1] S w2 w7) (fun _ s38 _ => s.n2 - (intOf s38).toNat)
          case atStart => exact ⟨0, S, by omega, rfl, by simpa [ressFl] using H6.out.1, H6.out.2⟩
          case round =>
            obtain ⟨k, S7, hk, rfl, hFI, hst⟩ := hrel
            have k0 : (0 : Int) ≤ (k : Int) := by omega
            have hsr := H2.out.2.2.2.fr hst.1 (H2.out.2.1.ge)
            have hSr := (HH.out.2.fr H2.out.2.2.1 (by simp) hBw).fr hst.1 H2.out.2.1.ge H2.out.2.2.2.le
            have hqr : Blk wr w.heap.size 32 #[.slice s.A1 s.n1 s.c1, .slice s.A2 s.n2 s.c2] := H2.out.1.fr hst.1 (by simp)
            have u0_ := hqr.at_ 0 (v := .slice s.A1 s.n1 s.c1) rfl
            have u1_ := hqr.at_ 1 (v := .slice s.A2 s.n2 s.c2) rfl
            have lu := hqr.lt
            have hlen : (longFl sComps (decide (16 < s.n1)) ++ compsFl s s.n1 ++ longFl sRess (decide (8 < s.n2)) ++ ressFl s k).length ≤ 200 := by
              have h1 := ressFl_len s k
              have h2 := HLn.out
              rw [List.length_append, List.length_append, List.length_append]; omega
            by_cases hkn : k < s.n2
            · have k1 : (k : Int) < (s.n2 : Int) := by omega
              obtain ⟨x, hx⟩ : ∃ x, s.rs[k]? = some x := ⟨s.rs[k]'(by have := hSr.l2; omega), by simp⟩
              have HC_ := hide (resf_calls hK hsr hFI (by omega) hSr hx)
              have Hst := hide (And.intro hst (ressFl_succ hx))
              clear hsr hSr hqr hFI hst hx hlen
              go_wp2_with fail
              refine HC_.out.mono ?_
              rintro e w8 ⟨rfl, S8, hFI8, hst8⟩
              have H8 := hide (And.intro hFI8 (Hst.out.1.trans hst8))
              clear hFI8 hst8
              go_wp2_with fail
              go_roundw
              case rel =>
                refine ⟨k + 1, S8, by omega, by go_num, ?_, H8.out.2⟩
                rw [Hst.out.2, ← List.append_assoc]
                exact H8.out.1
              case measure => simp [intOf]; omega
            · have hke : k = s.n2 := by omega
              have hnk : ¬ (k : Int) < (s.n2 : Int) := by omega
              rw [hke, ← Hall.out] at hFI
              rw [hke, ← Hall.out] at hlen
              obtain ⟨sl, vs, hS7, hBg, hg, hE, hL⟩ := hFI
              have f0 := hg.at_ 0 (v := sl) rfl
              have lf := hg.lt
              have hEL := hL.el
              have HAll := hide (all_ev (v := sl) (vs := vs) (css := (allFl s).map fun c => [c]) (by rw [List.length_map]; exact hE) hEL (by rw [List.length_map]; omega) (by rw [show ((allFl s).map fun c => [c]).flatten = allFl s by induction (allFl s) with | nil => rfl | cons a r ih => simp [ih]]; omega))
              rw [show ((allFl s).map fun c => [c]).flatten = allFl s by induction (allFl s) with | nil => rfl | cons a r ih => simp [ih]] at HAll
              have Hst := hide hst
              clear hsr hSr hqr hst hlen hke hg hE hL hEL hS7
              go_wp2_with fail
              refine HAll.out.mono ?_
              rintro e w9 ⟨v9, rfl, hv9, hf9⟩
              have H9 := hide (And.intro hv9 hf9)
              clear hv9 hf9
              go_wp2_with fail
              go_ret
              exact ⟨_, rfl, H9.out.1, (H2.out.2.2.1.step Hst.out.1 (by simp)).trans H9.out.2⟩


end Go.Proofs.YtnncbmbepdkfnaaDoor

/- schema's flaws of a resource. -/
import Derived.Test.YtnncbmbepdkfnaaDoorComp
namespace Go.Proofs.YtnncbmbepdkfnaaDoor
open Go.RowKit
set_option maxRecDepth 100000 in
set_option maxHeartbeats 4000000 in
theorem resf_calls {B : Nat} {w : World} {ad : Nat → Addr} {K : List Nat} (hK : K5 K) (hs : Sents K B w ad) {g : Nat} {S : List Nat} {cs : List Ch} (h : FI B w ad g S cs) (hl : cs.length ≤ 900) {s : Sa} (hS : SaOk w B s) {i : Nat} {x : Rs} (hx : s.rs[i]? = some x) :
    Calls Tryd.prog 39 #[.pointer (some ⟨g, 0, none⟩), s.val, .int .i64 i] w (FPost B ad g S (cs ++ resFl s.cn s.rn i x) w) := by
  have hi : i < s.n2 := by have := (List.getElem?_eq_some_iff.1 hx).1; have := hS.l2; omega
  have hi40 : i < 40 := by have := hS.b2; omega
  have i0 : (0 : Int) ≤ (i : Int) := by omega
  have i1 : (i : Int) < (s.n2 : Int) := by omega
  have hnm := hS.z2 x (List.mem_of_getElem? hx)
  obtain ⟨b, off, hA, hb, hcl⟩ := hS.r2.at_ encRs_len hx hS.l2
  have hbw : b < w.heap.size := Nat.lt_of_lt_of_le hb hs.le
  have a0 := hcl 0 _ rfl
  rw [Nat.add_zero] at a0
  have HH := hide (And.intro hs (And.intro h hS))
  have HF := hide (fun W (hf : Fr [] w W) => find_calls (c := s.c1) (cs := s.cs) ((hS.r1.up hs.le).fr0 hf) hS.l1 (by have := hS.b1; omega) s.A2 s.n2 s.c2 x.name)
  have HR := hide (fun W (hf : Fr [] w W) => res_calls (c := s.c2) (cs := s.rs) ((hS.r2.up hs.le).fr0 hf) hS.l2 (by have := hS.b2; omega) s.A1 s.n1 s.c1 x.name)
  clear hs h hS hcl hx
  obtain ⟨A1, n1, c1, scs, A2, n2, c2, srs⟩ := s
  dsimp only at *
  subst hA
  go_enter Tryd.func39, Tryd.ntmps39
  go_wp2_with fail
  have hbS : Blk (w.alloc (.cells #[.slice A1 n1 c1, .slice (some ⟨b, off, none⟩) n2 c2] 32)) w.heap.size 32 #[.slice A1 n1 c1, .slice (some ⟨b, off, none⟩) n2 c2] := Blk.new _ _ _
  have hf2 : Fr [] w (w.alloc (.cells #[.slice A1 n1 c1, .slice (some ⟨b, off, none⟩) n2 c2] 32)) := (Fr.refl _ _).alloc _
  generalize w.alloc (.cells #[.slice A1 n1 c1, .slice (some ⟨b, off, none⟩) n2 c2] 32) = w2 at *
  refine (HF.out w2 hf2).mono ?_
  rintro e w3 ⟨rfl, hf3⟩
  have hbS3 := hbS.fr0 hf3
  have q0 := hbS3.at_ 0 (v := .slice A1 n1 c1) rfl
  have q1 := hbS3.at_ 1 (v := .slice (some ⟨b, off, none⟩) n2 c2) rfl
  have lq := hbS3.lt
  have H3 := hide (hf2.trans hf3)
  clear hbS hf2 hf3 hbS3 HF a0
  have hcf : resFl (Sa.cn ⟨A1, n1, c1, scs, some ⟨b, off, none⟩, n2, c2, srs⟩) (Sa.rn ⟨A1, n1, c1, scs, some ⟨b, off, none⟩, n2, c2, srs⟩) i x = nameFl sRess i x.name ((findI (scs.map (·.name)) x.name).isSome || ((findI (srs.map (·.name)) x.name).isSome && decide ((findI (srs.map (·.name)) x.name).getD 0 < i))) := rfl
  simp only [isAt]
  generalize findI (scs.map (·.name)) x.name = o at *
  go_wp2_with fail
  refine (HR.out w3 H3.out).mono ?_
  rintro e w4 ⟨rfl, hf4⟩
  have H4 := hide (H3.out.trans hf4)
  clear hf4
  simp only [isAt]
  generalize findI (srs.map (·.name)) x.name = o2 at *
  obtain ⟨tk, htk⟩ : ∃ tk, tk = (o.isSome || (o2.isSome && decide (o2.getD 0 < i))) := ⟨_, rfl⟩
  rw [← htk] at hcf
  have HT := hide (named_calls hK (HH.out.1.fr0 H4.out) (HH.out.2.1.fr0 H4.out) (by omega) sRess (i := i) (by omega) x.name (by omega) tk)
  have Hcf := hide hcf
  clear hcf
  have ways : (∃ f, o = some f ∧ tk = true) ∨ (o = none ∧ o2 = none ∧ tk = false) ∨ (o = none ∧ ∃ f : Nat, o2 = some f ∧ ((f < i ∧ tk = true) ∨ (¬ f < i ∧ tk = false))) := by
    rw [htk]
    cases o with
    | some f => exact .inl ⟨f, rfl, rfl⟩
    | none =>
      cases o2 with
      | none => exact .inr (.inl ⟨rfl, rfl, rfl⟩)
      | some f =>
        by_cases h : f < i
        · exact .inr (.inr ⟨rfl, f, rfl, .inl ⟨h, by simp [h]⟩⟩)
        · exact .inr (.inr ⟨rfl, f, rfl, .inr ⟨h, by simp [h]⟩⟩)
  clear htk
  rcases ways with ⟨f, rfl, rfl⟩ | ⟨rfl, rfl, rfl⟩ | ⟨rfl, f, rfl, ⟨hfi, rfl⟩ | ⟨hfi, rfl⟩⟩
  · simp only [Option.getD_some, Option.isSome_some]
    go_wp2_with fail
    refine HT.out.mono ?_
    rintro e w5 ⟨rfl, S5, hFI5, hst5⟩
    have H5 := hide (And.intro hFI5 (hst5.pre H4.out))
    clear hFI5 hst5
    go_wp2_with fail
    go_end0
    exact ⟨rfl, S5, by rw [Hcf.out]; exact H5.out.1, H5.out.2⟩
  · simp only [Option.getD_none, Option.isSome_none]
    go_wp2_with fail
    refine HT.out.mono ?_
    rintro e w5 ⟨rfl, S5, hFI5, hst5⟩
    have H5 := hide (And.intro hFI5 (hst5.pre H4.out))
    clear hFI5 hst5
    go_wp2_with fail
    go_end0
    exact ⟨rfl, S5, by rw [Hcf.out]; exact H5.out.1, H5.out.2⟩
  · simp only [Option.getD_some, Option.isSome_some, Option.isSome_none, Option.getD_none]
    have hfi' : (f : Int) < (i : Int) := by omega
    go_wp2_with fail
    refine HT.out.mono ?_
    rintro e w5 ⟨rfl, S5, hFI5, hst5⟩
    have H5 := hide (And.intro hFI5 (hst5.pre H4.out))
    clear hFI5 hst5
    go_wp2_with fail
    go_end0
    exact ⟨rfl, S5, by rw [Hcf.out]; exact H5.out.1, H5.out.2⟩
  · simp only [Option.getD_some, Option.isSome_some, Option.isSome_none, Option.getD_none]
    have hfi' : ¬ (f : Int) < (i : Int) := by omega
    go_wp2_with fail
    refine HT.out.mono ?_
    rintro e w5 ⟨rfl, S5, hFI5, hst5⟩
    have H5 := hide (And.intro hFI5 (hst5.pre H4.out))
    clear hFI5 hst5
    go_wp2_with fail
    go_end0
    exact ⟨rfl, S5, by rw [Hcf.out]; exact H5.out.1, H5.out.2⟩
end Go.Proofs.YtnncbmbepdkfnaaDoor

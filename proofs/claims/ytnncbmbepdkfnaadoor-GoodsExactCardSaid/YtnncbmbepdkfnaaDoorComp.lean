/- schema's flaws of a component, of a resource. -/
import Derived.Test.YtnncbmbepdkfnaaDoorFlaws
namespace Go.Proofs.YtnncbmbepdkfnaaDoor
open Go.RowKit
abbrev sComps : ByteArray := ⟨#[99, 111, 109, 112, 111, 110, 101, 110, 116, 115]⟩
abbrev sRess : ByteArray := ⟨#[114, 101, 115, 111, 117, 114, 99, 101, 115]⟩
abbrev sWidth : ByteArray := ⟨#[119, 105, 100, 116, 104]⟩
abbrev sDefault : ByteArray := ⟨#[100, 101, 102, 97, 117, 108, 116]⟩
structure Sa where
  A1 : Option Addr
  n1 : Nat
  c1 : Nat
  cs : List Cp
  A2 : Option Addr
  n2 : Nat
  c2 : Nat
  rs : List Rs
abbrev Sa.val (s : Sa) : Value := .agg #[.slice s.A1 s.n1 s.c1, .slice s.A2 s.n2 s.c2]
abbrev Sa.cn (s : Sa) : List ByteArray := s.cs.map (·.name)
abbrev Sa.rn (s : Sa) : List ByteArray := s.rs.map (·.name)
structure SaOk (w : World) (B : Nat) (s : Sa) : Prop where
  l1 : s.cs.length = s.n1
  b1 : s.n1 ≤ 40
  k1 : s.n1 ≤ s.c1
  z1 : ∀ x ∈ s.cs, x.name.size ≤ 9223372036854775807
  r1 : Reads w B 7 s.A1 s.n1 (s.cs.flatMap encC)
  l2 : s.rs.length = s.n2
  b2 : s.n2 ≤ 40
  k2 : s.n2 ≤ s.c2
  z2 : ∀ x ∈ s.rs, x.name.size ≤ 9223372036854775807
  r2 : Reads w B 2 s.A2 s.n2 (s.rs.flatMap encRs)
theorem SaOk.below {w w' : World} {B : Nat} {s : Sa} (h : SaOk w B s) (hb : Below B w w') : SaOk w' B s :=
  ⟨h.l1, h.b1, h.k1, h.z1, h.r1.below hb, h.l2, h.b2, h.k2, h.z2, h.r2.below hb⟩
theorem SaOk.fr {w w' : World} {B : Nat} {s : Sa} {S : List Nat} (h : SaOk w B s) (hf : Fr S w w') (hS : ∀ b ∈ S, B ≤ b) (hB : B ≤ w.heap.size) : SaOk w' B s := h.below (hf.below hS hB)
theorem Reads.up {w : World} {B size n : Nat} {A : Option Addr} {xs : List Value} (h : Reads w B size A n xs) {B' : Nat} (hB : B ≤ B') : Reads w B' size A n xs :=
  ⟨h.1, fun hn => by
    obtain ⟨b, off, e, hb', hc⟩ := h.2 hn
    exact ⟨b, off, e, by omega, hc⟩⟩
def takenC (names : List ByteArray) (nm : ByteArray) (i : Nat) : Bool := (findI names nm).isSome && decide ((findI names nm).getD 0 < i)
def widthFl (i : Nat) (x : Cp) : List Ch :=
  if 1 ≤ x.width ∧ x.width ≤ 4 then (if cleanB x = false then [([sComps, digS i, sDefault], 1)] else []) else [([sComps, digS i, sWidth], 1)]
def compFl (names : List ByteArray) (i : Nat) (x : Cp) : List Ch := nameFl sComps i x.name (takenC names x.name i) ++ widthFl i x
def resFl (cn rn : List ByteArray) (i : Nat) (x : Rs) : List Ch := nameFl sRess i x.name ((findI cn x.name).isSome || takenC rn x.name i)
theorem nameFl_len (k : ByteArray) (i : Nat) (nm : ByteArray) (t : Bool) : (nameFl k i nm t).length ≤ 1 := by
  unfold nameFl
  split
  · simp
  · split <;> simp
theorem row3 (w : World) (a b c : ByteArray) : (w.alloc (.cells #[.string a, .string b, .string c] 9)).ownsRow 0 9 1 (.slice (some ⟨w.heap.size, 0, none⟩) 3 3) 3 ([a, b, c].map Value.string) :=
  row_mk (Blk.new w _ _) (Nat.zero_le _) (Nat.le_refl _) (by simp [maxLen]) rfl rfl
set_option maxRecDepth 100000 in
set_option maxHeartbeats 4000000 in
theorem comp_calls {B : Nat} {w : World} {ad : Nat → Addr} {K : List Nat} (hK : K5 K) (hs : Sents K B w ad) {g : Nat} {S : List Nat} {cs : List Ch} (h : FI B w ad g S cs) (hl : cs.length ≤ 900) {s : Sa} (hS : SaOk w B s) {i : Nat} {x : Cp} (hx : s.cs[i]? = some x) :
    Calls Tryd.prog 38 #[.pointer (some ⟨g, 0, none⟩), s.val, .int .i64 i] w (FPost B ad g S (cs ++ compFl s.cn i x) w) := by
  have hi : i < s.n1 := by have := (List.getElem?_eq_some_iff.1 hx).1; have := hS.l1; omega
  have hi40 : i < 40 := by have := hS.b1; omega
  have i0 : (0 : Int) ≤ (i : Int) := by omega
  have i1 : (i : Int) < (s.n1 : Int) := by omega
  have hnm := hS.z1 x (List.mem_of_getElem? hx)
  obtain ⟨b, off, hA, hb, hcl⟩ := hS.r1.at_ encC_len hx hS.l1
  have hfw : Fr [] w (w.alloc (.cells #[.slice s.A1 s.n1 s.c1, .slice s.A2 s.n2 s.c2] 32)) := (Fr.refl _ _).alloc _
  have hbw : b < w.heap.size := Nat.lt_of_lt_of_le hb hs.le
  have lbw : ∀ o, b < (w.alloc o).heap.size := fun o => by simp; omega
  have a0 := hcl 0 _ rfl
  have a1 := hcl 1 _ rfl
  have a2 := hcl 2 _ rfl
  have a3 := hcl 3 _ rfl
  have a4 := hcl 4 _ rfl
  have a5 := hcl 5 _ rfl
  have a6 := hcl 6 _ rfl
  rw [Nat.add_zero] at a0
  rw [← Nat.add_assoc] at a1 a2 a3 a4 a5 a6
  have HH := hide (And.intro hs (And.intro h hS))
  have HF := hide (fun W (hf : Fr [] w W) => find_calls (c := s.c1) (cs := s.cs) ((hS.r1.up hs.le).fr0 hf) hS.l1 (by have := hS.b1; omega) s.A2 s.n2 s.c2 x.name)
  have HI := hide (fun W => itoa_calls (w := W) (i := i) (by omega))
  clear hs h hS hcl hfw hx
  obtain ⟨A1, n1, c1, scs, A2, n2, c2, srs⟩ := s
  dsimp only at *
  subst hA
  go_enter Tryd.func38, Tryd.ntmps38
  go_wp2_with fail
  have hbC : Blk ((w.alloc (.cells #[.slice (some ⟨b, off, none⟩) n1 c1, .slice A2 n2 c2] 32)).alloc (.cells #[.string x.name, .int .i64 x.width, .bool x.roll, .int .i64 x.d0, .int .i64 x.d1, .int .i64 x.d2, .int .i64 x.d3] 81)) (w.heap.size + 1) 81 #[.string x.name, .int .i64 x.width, .bool x.roll, .int .i64 x.d0, .int .i64 x.d1, .int .i64 x.d2, .int .i64 x.d3] := Blk.new_at _ _ _ _ (by simp)
  have hf2 : Fr [] w ((w.alloc (.cells #[.slice (some ⟨b, off, none⟩) n1 c1, .slice A2 n2 c2] 32)).alloc (.cells #[.string x.name, .int .i64 x.width, .bool x.roll, .int .i64 x.d0, .int .i64 x.d1, .int .i64 x.d2, .int .i64 x.d3] 81)) := ((Fr.refl _ _).alloc _).alloc _
  generalize (w.alloc (.cells #[.slice (some ⟨b, off, none⟩) n1 c1, .slice A2 n2 c2] 32)).alloc (.cells #[.string x.name, .int .i64 x.width, .bool x.roll, .int .i64 x.d0, .int .i64 x.d1, .int .i64 x.d2, .int .i64 x.d3] 81) = w2 at *
  refine (HF.out w2 hf2).mono ?_
  rintro e w3 ⟨rfl, hf3⟩
  have H3 := hide (And.intro (hbC.fr0 hf3) (hf2.trans hf3))
  have hbC3 := hbC.fr0 hf3
  have q0 := hbC3.at_ 0 (v := .string x.name) rfl
  have lq := hbC3.lt
  have hSlt := HH.out.2.1.lt
  have HSlt := hide hSlt
  clear hbC hf2 hf3 hbC3 HF lbw a0 a1 a2 a3 a4 a5 a6 hSlt
  have hnl := nameFl_len sComps i x.name
  have Hnl := hide hnl
  clear hnl
  have HN := hide (fun t => named_calls hK (HH.out.1.fr0 H3.out.2) (HH.out.2.1.fr0 H3.out.2) (by omega) sComps (i := i) (by omega) x.name (by omega) t)
  have htk : takenC (scs.map (·.name)) x.name i = ((findI (scs.map (·.name)) x.name).isSome && decide ((findI (scs.map (·.name)) x.name).getD 0 < i)) := rfl
  have hcf : compFl (Sa.cn ⟨some ⟨b, off, none⟩, n1, c1, scs, A2, n2, c2, srs⟩) i x = nameFl sComps i x.name (takenC (scs.map (·.name)) x.name i) ++ widthFl i x := rfl
  rw [htk] at hcf
  simp only [isAt]
  generalize findI (scs.map (·.name)) x.name = o at *
  obtain ⟨tk, htk2⟩ : ∃ tk, tk = (o.isSome && decide (o.getD 0 < i)) := ⟨_, rfl⟩
  rw [← htk2] at hcf
  have HT := hide (HN.out tk)
  have Hcf := hide hcf
  clear htk hcf HN
  have ways : (o = none ∧ tk = false) ∨ (∃ f : Nat, o = some f ∧ ((f < i ∧ tk = true) ∨ (¬ f < i ∧ tk = false))) := by
    rw [htk2]
    cases o with
    | none => exact .inl ⟨rfl, rfl⟩
    | some f =>
      by_cases h : f < i
      · exact .inr ⟨f, rfl, .inl ⟨h, by simp [h]⟩⟩
      · exact .inr ⟨f, rfl, .inr ⟨h, by simp [h]⟩⟩
  clear htk2
  rcases ways with ⟨rfl, rfl⟩ | ⟨f, rfl, ⟨hfi, rfl⟩ | ⟨hfi, rfl⟩⟩
  · simp only [Option.getD_none, Option.isSome_none]
    go_wp2_with fail
    refine HT.out.mono ?_
    rintro e w4 ⟨rfl, S4, hFI4, hst4⟩
    have hq4 : Blk w4 (w.heap.size + 1) 81 #[.string x.name, .int .i64 x.width, .bool x.roll, .int .i64 x.d0, .int .i64 x.d1, .int .i64 x.d2, .int .i64 x.d3] := H3.out.1.fr hst4.1 (fun hm => by have := HSlt.out _ hm; omega)
    have r0 := hq4.at_ 0 (v := .string x.name) rfl
    have r1 := hq4.at_ 1 (v := .int .i64 x.width) rfl
    have r2 := hq4.at_ 2 (v := .bool x.roll) rfl
    have r3 := hq4.at_ 3 (v := .int .i64 x.d0) rfl
    have r4 := hq4.at_ 4 (v := .int .i64 x.d1) rfl
    have r5 := hq4.at_ 5 (v := .int .i64 x.d2) rfl
    have r6 := hq4.at_ 6 (v := .int .i64 x.d3) rfl
    have lr := hq4.lt
    have hs4 := (HH.out.1.fr0 H3.out.2).fr hst4.1 (HH.out.2.1.ge)
    have g1 := hs4.cell 1 hK.m1
    have lg1 := Nat.lt_of_lt_of_le (hs4.glob 1 hK.m1) hs4.le
    have e1 : gOf 1 = 2 := rfl
    rw [e1] at g1 lg1
    have H4 := hide (And.intro hFI4 (hst4.pre H3.out.2))
    have hln := Hnl.out
    have HNt := hide (fun W (hf : Fr [] w4 W) zs cap b h1 (hr : W.ownsRow 0 9 1 (.slice (some ⟨b, 0, none⟩) (List.length zs) cap) (List.length zs) (zs.map Value.string)) => note_calls (hFI4.fr0 hf) (by rw [List.length_append]; have := hln false; omega) (k := 1) (by omega) (by omega) h1 hr)
    clear hFI4 hst4 hq4 hs4 e1 hln
    go_wp2_with fail
    refine (HI.out _).mono ?_
    rintro e w' ⟨rfl, rfl⟩
    by_cases hw1 : x.width < 1
    · have hwf : widthFl i x = [([sComps, digS i, sWidth], 1)] := by unfold widthFl; rw [if_neg (by omega)]
      have Hwf := hide hwf
      clear hwf r0 r2 r3 r4 r5 r6
      go_wp2_with fail
      refine (HNt.out _ ((Fr.refl [] w4).alloc _) [sComps, digS i, sWidth] 3 _ (by simp) (row3 w4 _ _ _)).mono ?_
      rintro e w5 ⟨rfl, S5, hFI5, hst5⟩
      have H5 := hide (And.intro hFI5 (H4.out.2.trans (hst5.pre ((Fr.refl [] w4).alloc _))))
      clear hFI5 hst5
      go_wp2_with fail
      go_end0
      exact ⟨rfl, S5, by rw [Hcf.out, Hwf.out, ← List.append_assoc]; exact H5.out.1, H5.out.2⟩
    by_cases hw4 : 4 < x.width
    · have hwf : widthFl i x = [([sComps, digS i, sWidth], 1)] := by unfold widthFl; rw [if_neg (by omega)]
      have Hwf := hide hwf
      clear hwf r0 r2 r3 r4 r5 r6
      go_wp2_with fail
      refine (HNt.out _ ((Fr.refl [] w4).alloc _) [sComps, digS i, sWidth] 3 _ (by simp) (row3 w4 _ _ _)).mono ?_
      rintro e w5 ⟨rfl, S5, hFI5, hst5⟩
      have H5 := hide (And.intro hFI5 (H4.out.2.trans (hst5.pre ((Fr.refl [] w4).alloc _))))
      clear hFI5 hst5
      go_wp2_with fail
      go_end0
      exact ⟨rfl, S5, by rw [Hcf.out, Hwf.out, ← List.append_assoc]; exact H5.out.1, H5.out.2⟩
    have hwf : widthFl i x = if cleanB x = false then [([sComps, digS i, sDefault], 1)] else [] := by unfold widthFl; rw [if_pos (by omega)]
    have HCl := hide (clean_calls (w := w4) x (by omega) (by omega))
    cases hcb : cleanB x with
    | true =>
      rw [hcb] at hwf HCl
      have Hwf := hide hwf
      clear hwf hcb
      go_wp2_with fail
      refine HCl.out.mono ?_
      rintro e w5 ⟨rfl, hf5⟩
      have H5 := hide hf5
      clear hf5
      go_wp2_with fail
      go_end0
      refine ⟨rfl, S4, ?_, H4.out.2.trans (Stp.same H5.out)⟩
      rw [Hcf.out, Hwf.out, if_neg (by simp), List.append_nil]
      exact H4.out.1.fr0 H5.out
    | false =>
      rw [hcb] at hwf HCl
      have Hwf := hide hwf
      clear hwf hcb
      go_wp2_with fail
      refine HCl.out.mono ?_
      rintro e w5 ⟨rfl, hf5⟩
      have H5 := hide hf5
      have g15 := (hf5.cell (p := ⟨2, 0, none⟩) lg1 (by simp)).trans g1
      have lg15 := Nat.lt_of_lt_of_le lg1 hf5.size
      clear hf5
      go_wp2_with fail
      refine (HNt.out _ (H5.out.alloc _) [sComps, digS i, sDefault] 3 _ (by simp) (row3 w5 _ _ _)).mono ?_
      rintro e w6 ⟨rfl, S6, hFI6, hst6⟩
      have H6 := hide (And.intro hFI6 (H4.out.2.trans (hst6.pre (H5.out.alloc _))))
      clear hFI6 hst6
      go_wp2_with fail
      go_end0
      exact ⟨rfl, S6, by rw [Hcf.out, Hwf.out, if_pos trivial, ← List.append_assoc]; exact H6.out.1, H6.out.2⟩
  · simp only [Option.getD_some, Option.isSome_some]
    have hfi' : (f : Int) < (i : Int) := by omega
    go_wp2_with fail
    refine HT.out.mono ?_
    rintro e w4 ⟨rfl, S4, hFI4, hst4⟩
    have hq4 : Blk w4 (w.heap.size + 1) 81 #[.string x.name, .int .i64 x.width, .bool x.roll, .int .i64 x.d0, .int .i64 x.d1, .int .i64 x.d2, .int .i64 x.d3] := H3.out.1.fr hst4.1 (fun hm => by have := HSlt.out _ hm; omega)
    have r0 := hq4.at_ 0 (v := .string x.name) rfl
    have r1 := hq4.at_ 1 (v := .int .i64 x.width) rfl
    have r2 := hq4.at_ 2 (v := .bool x.roll) rfl
    have r3 := hq4.at_ 3 (v := .int .i64 x.d0) rfl
    have r4 := hq4.at_ 4 (v := .int .i64 x.d1) rfl
    have r5 := hq4.at_ 5 (v := .int .i64 x.d2) rfl
    have r6 := hq4.at_ 6 (v := .int .i64 x.d3) rfl
    have lr := hq4.lt
    have hs4 := (HH.out.1.fr0 H3.out.2).fr hst4.1 (HH.out.2.1.ge)
    have g1 := hs4.cell 1 hK.m1
    have lg1 := Nat.lt_of_lt_of_le (hs4.glob 1 hK.m1) hs4.le
    have e1 : gOf 1 = 2 := rfl
    rw [e1] at g1 lg1
    have H4 := hide (And.intro hFI4 (hst4.pre H3.out.2))
    have hln := Hnl.out
    have HNt := hide (fun W (hf : Fr [] w4 W) zs cap b h1 (hr : W.ownsRow 0 9 1 (.slice (some ⟨b, 0, none⟩) (List.length zs) cap) (List.length zs) (zs.map Value.string)) => note_calls (hFI4.fr0 hf) (by rw [List.length_append]; have := hln true; omega) (k := 1) (by omega) (by omega) h1 hr)
    clear hFI4 hst4 hq4 hs4 e1 hln
    go_wp2_with fail
    refine (HI.out _).mono ?_
    rintro e w' ⟨rfl, rfl⟩
    by_cases hw1 : x.width < 1
    · have hwf : widthFl i x = [([sComps, digS i, sWidth], 1)] := by unfold widthFl; rw [if_neg (by omega)]
      have Hwf := hide hwf
      clear hwf r0 r2 r3 r4 r5 r6
      go_wp2_with fail
      refine (HNt.out _ ((Fr.refl [] w4).alloc _) [sComps, digS i, sWidth] 3 _ (by simp) (row3 w4 _ _ _)).mono ?_
      rintro e w5 ⟨rfl, S5, hFI5, hst5⟩
      have H5 := hide (And.intro hFI5 (H4.out.2.trans (hst5.pre ((Fr.refl [] w4).alloc _))))
      clear hFI5 hst5
      go_wp2_with fail
      go_end0
      exact ⟨rfl, S5, by rw [Hcf.out, Hwf.out, ← List.append_assoc]; exact H5.out.1, H5.out.2⟩
    by_cases hw4 : 4 < x.width
    · have hwf : widthFl i x = [([sComps, digS i, sWidth], 1)] := by unfold widthFl; rw [if_neg (by omega)]
      have Hwf := hide hwf
      clear hwf r0 r2 r3 r4 r5 r6
      go_wp2_with fail
      refine (HNt.out _ ((Fr.refl [] w4).alloc _) [sComps, digS i, sWidth] 3 _ (by simp) (row3 w4 _ _ _)).mono ?_
      rintro e w5 ⟨rfl, S5, hFI5, hst5⟩
      have H5 := hide (And.intro hFI5 (H4.out.2.trans (hst5.pre ((Fr.refl [] w4).alloc _))))
      clear hFI5 hst5
      go_wp2_with fail
      go_end0
      exact ⟨rfl, S5, by rw [Hcf.out, Hwf.out, ← List.append_assoc]; exact H5.out.1, H5.out.2⟩
    have hwf : widthFl i x = if cleanB x = false then [([sComps, digS i, sDefault], 1)] else [] := by unfold widthFl; rw [if_pos (by omega)]
    have HCl := hide (clean_calls (w := w4) x (by omega) (by omega))
    cases hcb : cleanB x with
    | true =>
      rw [hcb] at hwf HCl
      have Hwf := hide hwf
      clear hwf hcb
      go_wp2_with fail
      refine HCl.out.mono ?_
      rintro e w5 ⟨rfl, hf5⟩
      have H5 := hide hf5
      clear hf5
      go_wp2_with fail
      go_end0
      refine ⟨rfl, S4, ?_, H4.out.2.trans (Stp.same H5.out)⟩
      rw [Hcf.out, Hwf.out, if_neg (by simp), List.append_nil]
      exact H4.out.1.fr0 H5.out
    | false =>
      rw [hcb] at hwf HCl
      have Hwf := hide hwf
      clear hwf hcb
      go_wp2_with fail
      refine HCl.out.mono ?_
      rintro e w5 ⟨rfl, hf5⟩
      have H5 := hide hf5
      have g15 := (hf5.cell (p := ⟨2, 0, none⟩) lg1 (by simp)).trans g1
      have lg15 := Nat.lt_of_lt_of_le lg1 hf5.size
      clear hf5
      go_wp2_with fail
      refine (HNt.out _ (H5.out.alloc _) [sComps, digS i, sDefault] 3 _ (by simp) (row3 w5 _ _ _)).mono ?_
      rintro e w6 ⟨rfl, S6, hFI6, hst6⟩
      have H6 := hide (And.intro hFI6 (H4.out.2.trans (hst6.pre (H5.out.alloc _))))
      clear hFI6 hst6
      go_wp2_with fail
      go_end0
      exact ⟨rfl, S6, by rw [Hcf.out, Hwf.out, if_pos trivial, ← List.append_assoc]; exact H6.out.1, H6.out.2⟩
  · simp only [Option.getD_some, Option.isSome_some]
    have hfi' : ¬ (f : Int) < (i : Int) := by omega
    go_wp2_with fail
    refine HT.out.mono ?_
    rintro e w4 ⟨rfl, S4, hFI4, hst4⟩
    have hq4 : Blk w4 (w.heap.size + 1) 81 #[.string x.name, .int .i64 x.width, .bool x.roll, .int .i64 x.d0, .int .i64 x.d1, .int .i64 x.d2, .int .i64 x.d3] := H3.out.1.fr hst4.1 (fun hm => by have := HSlt.out _ hm; omega)
    have r0 := hq4.at_ 0 (v := .string x.name) rfl
    have r1 := hq4.at_ 1 (v := .int .i64 x.width) rfl
    have r2 := hq4.at_ 2 (v := .bool x.roll) rfl
    have r3 := hq4.at_ 3 (v := .int .i64 x.d0) rfl
    have r4 := hq4.at_ 4 (v := .int .i64 x.d1) rfl
    have r5 := hq4.at_ 5 (v := .int .i64 x.d2) rfl
    have r6 := hq4.at_ 6 (v := .int .i64 x.d3) rfl
    have lr := hq4.lt
    have hs4 := (HH.out.1.fr0 H3.out.2).fr hst4.1 (HH.out.2.1.ge)
    have g1 := hs4.cell 1 hK.m1
    have lg1 := Nat.lt_of_lt_of_le (hs4.glob 1 hK.m1) hs4.le
    have e1 : gOf 1 = 2 := rfl
    rw [e1] at g1 lg1
    have H4 := hide (And.intro hFI4 (hst4.pre H3.out.2))
    have hln := Hnl.out
    have HNt := hide (fun W (hf : Fr [] w4 W) zs cap b h1 (hr : W.ownsRow 0 9 1 (.slice (some ⟨b, 0, none⟩) (List.length zs) cap) (List.length zs) (zs.map Value.string)) => note_calls (hFI4.fr0 hf) (by rw [List.length_append]; have := hln false; omega) (k := 1) (by omega) (by omega) h1 hr)
    clear hFI4 hst4 hq4 hs4 e1 hln
    go_wp2_with fail
    refine (HI.out _).mono ?_
    rintro e w' ⟨rfl, rfl⟩
    by_cases hw1 : x.width < 1
    · have hwf : widthFl i x = [([sComps, digS i, sWidth], 1)] := by unfold widthFl; rw [if_neg (by omega)]
      have Hwf := hide hwf
      clear hwf r0 r2 r3 r4 r5 r6
      go_wp2_with fail
      refine (HNt.out _ ((Fr.refl [] w4).alloc _) [sComps, digS i, sWidth] 3 _ (by simp) (row3 w4 _ _ _)).mono ?_
      rintro e w5 ⟨rfl, S5, hFI5, hst5⟩
      have H5 := hide (And.intro hFI5 (H4.out.2.trans (hst5.pre ((Fr.refl [] w4).alloc _))))
      clear hFI5 hst5
      go_wp2_with fail
      go_end0
      exact ⟨rfl, S5, by rw [Hcf.out, Hwf.out, ← List.append_assoc]; exact H5.out.1, H5.out.2⟩
    by_cases hw4 : 4 < x.width
    · have hwf : widthFl i x = [([sComps, digS i, sWidth], 1)] := by unfold widthFl; rw [if_neg (by omega)]
      have Hwf := hide hwf
      clear hwf r0 r2 r3 r4 r5 r6
      go_wp2_with fail
      refine (HNt.out _ ((Fr.refl [] w4).alloc _) [sComps, digS i, sWidth] 3 _ (by simp) (row3 w4 _ _ _)).mono ?_
      rintro e w5 ⟨rfl, S5, hFI5, hst5⟩
      have H5 := hide (And.intro hFI5 (H4.out.2.trans (hst5.pre ((Fr.refl [] w4).alloc _))))
      clear hFI5 hst5
      go_wp2_with fail
      go_end0
      exact ⟨rfl, S5, by rw [Hcf.out, Hwf.out, ← List.append_assoc]; exact H5.out.1, H5.out.2⟩
    have hwf : widthFl i x = if cleanB x = false then [([sComps, digS i, sDefault], 1)] else [] := by unfold widthFl; rw [if_pos (by omega)]
    have HCl := hide (clean_calls (w := w4) x (by omega) (by omega))
    cases hcb : cleanB x with
    | true =>
      rw [hcb] at hwf HCl
      have Hwf := hide hwf
      clear hwf hcb
      go_wp2_with fail
      refine HCl.out.mono ?_
      rintro e w5 ⟨rfl, hf5⟩
      have H5 := hide hf5
      clear hf5
      go_wp2_with fail
      go_end0
      refine ⟨rfl, S4, ?_, H4.out.2.trans (Stp.same H5.out)⟩
      rw [Hcf.out, Hwf.out, if_neg (by simp), List.append_nil]
      exact H4.out.1.fr0 H5.out
    | false =>
      rw [hcb] at hwf HCl
      have Hwf := hide hwf
      clear hwf hcb
      go_wp2_with fail
      refine HCl.out.mono ?_
      rintro e w5 ⟨rfl, hf5⟩
      have H5 := hide hf5
      have g15 := (hf5.cell (p := ⟨2, 0, none⟩) lg1 (by simp)).trans g1
      have lg15 := Nat.lt_of_lt_of_le lg1 hf5.size
      clear hf5
      go_wp2_with fail
      refine (HNt.out _ (H5.out.alloc _) [sComps, digS i, sDefault] 3 _ (by simp) (row3 w5 _ _ _)).mono ?_
      rintro e w6 ⟨rfl, S6, hFI6, hst6⟩
      have H6 := hide (And.intro hFI6 (H4.out.2.trans (hst6.pre (H5.out.alloc _))))
      clear hFI6 hst6
      go_wp2_with fail
      go_end0
      exact ⟨rfl, S6, by rw [Hcf.out, Hwf.out, if_pos trivial, ← List.append_assoc]; exact H6.out.1, H6.out.2⟩
end Go.Proofs.YtnncbmbepdkfnaaDoor

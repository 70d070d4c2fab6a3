/- The reference's Check: all that is wrong with a schema. -/
import Derived.Test.YtnncbmbepdkfnaaDoorRefFind
import Derived.Test.YtnncbmbepdkfnaaDoorCheckS
import Derived.Deep.DeepCutAuto
namespace Go.Proofs.YtnncbmbepdkfnaaDoor
open Go.RowKit
theorem infoFlaw : (Tryd.prog.info? 78).map (fun i => (i.zero, i.size, i.bytes)) = some (some (.agg #[.string ⟨#[]⟩, .int .i64 0]), 2, 24) := by kernel_rfl
/-! ### Paths -/
theorem joinB1 (s : ByteArray) : joinB [s] = s := by
  unfold joinB
  rw [List.map_cons, List.map_nil, Lib.join_one]
theorem joinB2 (s : ByteArray) (ws : List ByteArray) (h : ws ≠ []) : joinB (s :: ws) = s ++ (⟨#[47]⟩ ++ joinB ws) := by
  obtain ⟨x, r, rfl⟩ := List.exists_cons_of_ne_nil h
  apply ByteArray.ext
  apply Array.toList_inj.1
  unfold joinB
  rw [List.map_cons, List.map_cons, Lib.join_cons, Lib.join_cons]
  simp [Lib.joinTail, ByteArray.data_append]
abbrev sSl : ByteArray := ⟨#[47]⟩
abbrev sCompsSl : ByteArray := ⟨#[99, 111, 109, 112, 111, 110, 101, 110, 116, 115, 47]⟩
abbrev sRessSl : ByteArray := ⟨#[114, 101, 115, 111, 117, 114, 99, 101, 115, 47]⟩
abbrev sSlName : ByteArray := ⟨#[47, 110, 97, 109, 101]⟩
theorem slC : sCompsSl = sComps ++ sSl := by decide
theorem slR : sRessSl = sRess ++ sSl := by decide
theorem slN : sSlName = sSl ++ sName := by decide
theorem path3 (a d b : ByteArray) : joinB [a, d, b] = ((a ++ sSl) ++ d ++ sSl) ++ b := by
  rw [joinB2 _ _ (by simp), joinB2 _ _ (by simp), joinB1]
  simp only [ByteArray.append_assoc]
/-- where the reference's list stands -/
def RI (w W : World) (v : Value) (fl : List Ch) : Prop := W.ownsRow w.heap.size 78 2 v fl.length ((fl.map lf).flatMap encL) ∧ Fr [] w W
theorem RI.app {w W W2 : World} {v : Value} {fl : List Ch} {c : Ch} {p : ByteArray} {k : Int} {g cap : Nat} (h : RI w W v fl) (o : Obj)
    (hown : W2.ownsRow w.heap.size 78 2 (.slice (some ⟨g, 0, none⟩) (fl.length + 1) cap) (fl.length + 1) ((fl.map lf).flatMap encL ++ [.string p, .int .i64 k])) (hg : (W.alloc o).grownBy W2 v.ownBlock) (hp : (lf c).1 = p) (hk : ((lf c).2 : Int) = k) :
    RI w W2 (.slice (some ⟨g, 0, none⟩) (fl.length + 1) cap) (fl ++ [c]) := by
  refine ⟨?_, (h.2.alloc o).grown hg (fun b hb => .inr (row_lt h.1 hb).2)⟩
  rw [List.length_append, List.map_append, List.flatMap_append, List.map_cons, List.map_nil, List.flatMap_singleton]
  unfold encL
  rw [hp, hk]
  exact hown
theorem RI.fr {w W W2 : World} {v : Value} {fl : List Ch} (h : RI w W v fl) (hf : Fr [] W W2) : RI w W2 v fl := ⟨row_fr h.1 hf (by simp), h.2.trans hf⟩
theorem RI.blk {w W W2 : World} {v : Value} {fl : List Ch} (h : RI w W v fl) (o : Obj) (hg : (W.alloc o).grownBy W2 v.ownBlock) {b : Nat} {t : TypeId} {cs : Array Value} (hb : Blk W b t cs) (ht : 78 ≠ t) : Blk W2 b t cs := by
  have hne := row_blk_ne h.1 hb ht
  have hf : Fr v.ownBlock.toList (W.alloc o) W2 := Fr.of_grown hg (fun k hk => .inl (by simp [hk]))
  exact (hb.alloc o).fr hf (fun hm => hne (by simpa using hm))
theorem nameFl_bad {k : ByteArray} {i : Nat} {nm : ByteArray} {t : Bool} (h : nameB nm = false) : nameFl k i nm t = [([k, digS i, sName], 10)] := by unfold nameFl; rw [if_pos h]
theorem nameFl_tk {k : ByteArray} {i : Nat} {nm : ByteArray} {t : Bool} (h : nameB nm = true) (ht : t = true) : nameFl k i nm t = [([k, digS i, sName], 9)] := by unfold nameFl; rw [h, if_neg (by simp), if_pos ht]
theorem nameFl_ok {k : ByteArray} {i : Nat} {nm : ByteArray} {t : Bool} (h : nameB nm = true) (ht : t = false) : nameFl k i nm t = [] := by unfold nameFl; rw [h, if_neg (by simp), ht, if_neg (by simp)]
def clE (x : Cp) (e : Int) : Bool := (([x.d0, x.d1, x.d2, x.d3].take e.toNat).drop x.width.toNat).all (· == 0)
theorem clE_4 (x : Cp) : clE x 4 = cleanB x := rfl
theorem clE_w (x : Cp) (h : 1 ≤ x.width) (h4 : x.width ≤ 4) : clE x x.width = true := by
  obtain ⟨n, hn⟩ := Int.eq_ofNat_of_zero_le (a := x.width) (by omega)
  unfold clE
  rw [hn]
  have : n = 1 ∨ n = 2 ∨ n = 3 ∨ n = 4 := by omega
  rcases this with rfl | rfl | rfl | rfl <;> rfl
theorem clE_succ (x : Cp) {e : Int} {d : Int} (h : 1 ≤ x.width) (he : x.width ≤ e) (h4 : e < 4) (hd : [x.d0, x.d1, x.d2, x.d3][e.toNat]? = some d) : clE x (e + 1) = (clE x e && (d == 0)) := by
  obtain ⟨n, hn⟩ := Int.eq_ofNat_of_zero_le (a := x.width) (by omega)
  obtain ⟨m, rfl⟩ := Int.eq_ofNat_of_zero_le (a := e) (by omega)
  unfold clE
  rw [hn]
  have h1 : ((m : Int) + 1).toNat = m + 1 := by omega
  have h2 : ((m : Int)).toNat = m := by omega
  rw [h2] at hd
  rw [h1, h2, List.take_add_one, hd, List.drop_append, List.all_append]
  have h3 : ([x.d0, x.d1, x.d2, x.d3].take m).length = m := by rw [List.length_take]; simp; omega
  rw [h3, show ((n : Int)).toNat - m = 0 by omega]
  simp
set_option maxRecDepth 100000 in
set_option maxHeartbeats 8000000 in
theorem rcheck_calls {B : Nat} {w : World} {s : Sa} (hS : SaOk w B s) (hB : B ≤ w.heap.size) :
    Calls Tryd.prog 21 #[s.val] w fun e w' => ∃ v, e = .returned v ∧ w'.ownsRow w.heap.size 78 2 v (allFl s).length (((allFl s).map lf).flatMap encL) ∧ Fr [] w w' := by
  have H0 := hide hS
  have n40 := hS.b1
  have m40 := hS.b2
  obtain ⟨i9, hi9, hz9, hs9, hb9⟩ := info_parts infoFlaw
  have hv : s.val = .agg #[.slice s.A1 s.n1 s.c1, .slice s.A2 s.n2 s.c2] := rfl
  rw [hv]
  clear hS hv
  go_enter Tryd.func21, Tryd.ntmps21
  go_upto_region 2 with (fail)
  obtain ⟨w0, hw0⟩ : ∃ w0, w0 = w.alloc (.cells #[.slice s.A1 s.n1 s.c1, .slice s.A2 s.n2 s.c2] 32) := ⟨_, rfl⟩
  have hsz0 : w0.heap.size = w.heap.size + 1 := by rw [hw0, World.size_alloc]
  have hb0 : Blk w0 w.heap.size 32 #[.slice s.A1 s.n1 s.c1, .slice s.A2 s.n2 s.c2] := by rw [hw0]; exact Blk.new _ _ _
  have hf0 : Fr [] w w0 := by rw [hw0]; exact (Fr.refl _ _).alloc _
  rw [← hw0, ← hsz0]
  clear hw0
  have hI : RI w0 (w0.alloc (.cells #[] 78)) (.slice (some ⟨w0.heap.size, 0, none⟩) 0 0) [] := ⟨row_mk (cur := #[]) (Blk.new _ _ _) (Nat.le_refl _) (Nat.le_refl _) (by unfold maxLen; omega) rfl rfl, (Fr.refl _ _).alloc _⟩
  have hIs : w0.heap.size ≤ (w0.alloc (.cells #[] 78)).heap.size := by rw [World.size_alloc]; omega
  generalize w0.alloc (.cells #[] 78) = w1 at *
  have HW := hide (And.intro hb0 (And.intro hf0 hsz0))
  have HI := hide hI
  have p0 := (hb0.fr0 hI.2).at_ 0 (v := .slice s.A1 s.n1 s.c1) rfl
  have p1 := (hb0.fr0 hI.2).at_ 1 (v := .slice s.A2 s.n2 s.c2) rfl
  have lp := (hb0.fr0 hI.2).lt
  obtain ⟨B0, hB0⟩ : ∃ B0, B0 = w0.heap.size := ⟨_, rfl⟩
  clear hb0 hf0 hI hsz0
  go_upto_if 22 with (fail)
  go_cut [3] (fun v3 wr => RI w0 wr v3 (longFl sComps (decide (16 < s.n1))))
  case first =>
    by_cases h16 : 16 < s.n1
    · have h16' : (16 : Int) < (s.n1 : Int) := by omega
      go_wp2_with (at_builtin; refine wpList_append_lies _ rfl _ _ _ rfl w0.heap.size 78 i9 _ 2 24 Tryd.underlying54 hi9 hz9 hs9 hb9 rfl (by omega) (.slice (some ⟨w0.heap.size, 0, none⟩) 0 0) (0) ([]) rfl ((HI.out.1.alloc _)) (⟨w1.heap.size, 0, none⟩) (1) (1) ([.string sComps, .int .i64 4]) rfl (rfl) ((World.news_of_block (cs := #[.string sComps, .int .i64 4]) (t := 78) (fr := (0, 0)) (Blk.new_at _ _ _ _ (by simp)))) ((by simp [Value.oneCell'])) (by omega) (by unfold maxLen; omega) (by omega) (by first | omega | (simp; done) | (simp; omega)) (w1.heap.size + 1) (by simp) ?_; intro ag9 ac9 aw9 aown9 agrow9 aat9 alt9)
      have hfin := hide (And.intro aown9 agrow9)
      go_meet
      rw [decide_eq_true h16]
      exact HI.out.app (c := ([sComps], 4)) _ hfin.out.1 hfin.out.2 (joinB1 _) rfl
    · have h16' : ¬ (16 : Int) < (s.n1 : Int) := by omega
      go_wp2_with fail
      go_meet
      rw [decide_eq_false h16]
      exact HI.out
  case rest =>
    obtain ⟨f0, hf0⟩ : ∃ f0, f0 = longFl sComps (decide (16 < s.n1)) := ⟨_, rfl⟩
    have hf0l : f0.length ≤ 1 := by rw [hf0]; exact longFl_len _ _
    rw [← hf0] at hcut
    have HC := hide hcut
    have HF0 := hide hf0
    clear hcut hf0 p0 p1 lp HI hIs hB0 B0
    go_wp2_with fail
    go_loopw [3, 4] (fun s3 s4 wr => ∃ i : Nat, i ≤ s.n1 ∧ s4 = .int .i64 i ∧ RI w0 wr s3 (f0 ++ compsFl s i)) (fun _ s4 _ => s.n1 - (intOf s4).toNat)
    case atStart =>
      refine ⟨0, by omega, rfl, ?_⟩
      rw [show compsFl s 0 = [] from rfl, List.append_nil]
      exact HC.out
    case round =>
      obtain ⟨i, hi, rfl, hri⟩ := hrel
      have j0 : (0 : Int) ≤ (i : Int) := by omega
      have hb := HW.out.1.fr0 hri.2
      have p0 := hb.at_ 0 (v := .slice s.A1 s.n1 s.c1) rfl
      have p1 := hb.at_ 1 (v := .slice s.A2 s.n2 s.c2) rfl
      have lp := hb.lt
      have hfl : (f0 ++ compsFl s i).length ≤ 81 := by have := compsFl_len s i; rw [List.length_append]; omega
      by_cases hin : i < s.n1
      · have j1 : (i : Int) < (s.n1 : Int) := by omega
        obtain ⟨x, hx⟩ : ∃ x, s.cs[i]? = some x := ⟨s.cs[i]'(by have := H0.out.l1; omega), by simp⟩
        obtain ⟨b, off, hA, hbB, hcl⟩ := H0.out.r1.at_ encC_len hx H0.out.l1
        have hbw : b < w.heap.size := by omega
        have hfw := HW.out.2.1.trans hri.2
        have hcl' := fun (j : Nat) u (hu : (encC x)[j]? = some u) => (hfw.cell (p := ⟨b, off + (i * 7 + j), none⟩) hbw (by simp)).trans (hcl j u hu)
        have a0 := hcl' 0 _ rfl
        have a1 := hcl' 1 _ rfl
        have a2 := hcl' 2 _ rfl
        have a3 := hcl' 3 _ rfl
        have a4 := hcl' 4 _ rfl
        have a5 := hcl' 5 _ rfl
        have a6 := hcl' 6 _ rfl
        rw [Nat.add_zero] at a0
        rw [← Nat.add_assoc] at a1 a2 a3 a4 a5 a6
        have lbr := Nat.lt_of_lt_of_le hbw hfw.size
        rw [hA] at p0
        have hfl' := compsFl_succ hx
        obtain ⟨fl, hflE⟩ : ∃ fl, fl = f0 ++ compsFl s i := ⟨_, rfl⟩
        rw [← hflE] at hri hfl
        have hfl2 : f0 ++ compsFl s (i + 1) = (fl ++ nameFl sComps i x.name (takenC s.cn x.name i)) ++ widthFl i x := by
          rw [hfl', hflE, ← List.append_assoc]
          unfold compFl
          rw [← List.append_assoc]
        have HR := hide (And.intro hri hfl2)
        have Hx := hide hx
        obtain ⟨D, hD⟩ : ∃ D, D = digS i := ⟨_, rfl⟩
        have hDs : D.size ≤ 2 := by rw [hD]; exact digS_size i (by omega)
        obtain ⟨D1, hD1⟩ : ∃ D1, D1 = sCompsSl ++ D := ⟨_, rfl⟩
        obtain ⟨A, hAt⟩ : ∃ A, A = D1 ++ sSl := ⟨_, rfl⟩
        obtain ⟨N, hN⟩ : ∃ N, N = A ++ sName := ⟨_, rfl⟩
        obtain ⟨Wd, hWd⟩ : ∃ Wd, Wd = A ++ sWidth := ⟨_, rfl⟩
        obtain ⟨Df, hDf⟩ : ∃ Df, Df = A ++ sDefault := ⟨_, rfl⟩
        have hs1 : D1.size ≤ 20 := by rw [hD1, ByteArray.size_append]; have : sCompsSl.size = 11 := rfl; omega
        have hs2 : A.size ≤ 30 := by rw [hAt, ByteArray.size_append]; have : sSl.size = 1 := rfl; omega
        have c1 := cat_str sCompsSl D (by have : sCompsSl.size = 11 := rfl; omega)
        have c2 := cat_str D1 sSl (by have : sSl.size = 1 := rfl; omega)
        have c3 := cat_str A sName (by have : sName.size = 4 := rfl; omega)
        have c4 := cat_str A sWidth (by have : sWidth.size = 5 := rfl; omega)
        have c5 := cat_str A sDefault (by have : sDefault.size = 7 := rfl; omega)
        rw [← hD1] at c1
        rw [← hAt] at c2
        rw [← hN] at c3
        rw [← hWd] at c4
        rw [← hDf] at c5
        have jo : ∀ z, joinB [sComps, digS i, z] = A ++ z := fun z => by rw [path3, ← hD, ← slC, ← hD1, ← hAt]
        have HP := hide (And.intro (hN ▸ jo sName) (And.intro (hWd ▸ jo sWidth) (hDf ▸ jo sDefault)))
        have HD := hide (fun W => digits_calls (w := W) (i := i) (by omega))
        rw [← hD] at HD
        have HN := hide (fun W => risname_calls (w := W) x.name (by have := H0.out.z1 x (List.mem_of_getElem? hx); omega))
        have HFd := hide (fun W (hf : Fr [] w W) => rfind_calls (c := s.c1) (cs := s.cs) ((H0.out.r1.up hB).fr0 hf) H0.out.l1 (by omega) s.A2 s.n2 s.c2 x.name)
        rw [hA] at HFd
        have HA := hide hA
        clear hA
        clear hri hfl' hfl2 hx hcl hcl' hfw hb hD hD1 hAt hN hWd hDf jo hs1 hs2 hDs hflE
        go_wp2_with fail
        refine (HD.out _).mono ?_
        rintro e w2 ⟨rfl, hf2⟩
        have hf12 : Fr [] wr w2 := ((Fr.refl _ _).alloc _).trans hf2
        have hbc := (Blk.new wr 81 #[.string x.name, .int .i64 x.width, .bool x.roll, .int .i64 x.d0, .int .i64 x.d1, .int .i64 x.d2, .int .i64 x.d3]).fr0 hf2
        generalize wr.heap.size = bc at *
        have H2 := hide (And.intro (HR.out.1.fr hf12) hbc)
        clear a0 a1 a2 a3 a4 a5 a6 p0 p1 lp lbr hf2 hf12
        have e0 := hbc.at_ 0 (v := .string x.name) rfl
        have le := hbc.lt
        clear hbc
        go_wp2_with fail
        refine (HN.out _).mono ?_
        rintro e w' ⟨rfl, rfl⟩
        go_upto_if 46 with (fail)
        go_cut [3, 7, 8] (fun v3 _ _ w' => RI w0 w' v3 (fl ++ nameFl sComps i x.name (takenC s.cn x.name i)) ∧ Blk w' bc 81 #[.string x.name, .int .i64 x.width, .bool x.roll, .int .i64 x.d0, .int .i64 x.d1, .int .i64 x.d2, .int .i64 x.d3])
        case first =>
          have hsz2 : w0.heap.size ≤ w2.heap.size := H2.out.1.2.size
          cases hnb : nameB x.name with
          | false =>
            have Hnb := hide hnb
            clear hnb
            go_wp2_with (at_builtin; refine wpList_append_lies _ rfl _ _ _ rfl w0.heap.size 78 i9 _ 2 24 Tryd.underlying54 hi9 hz9 hs9 hb9 rfl (by omega) (u3) (fl.length) ((fl.map lf).flatMap encL) rfl ((H2.out.1.1.alloc _)) (⟨w2.heap.size, 0, none⟩) (1) (1) ([.string N, .int .i64 10]) rfl (rfl) ((World.news_of_block (cs := #[.string N, .int .i64 10]) (t := 78) (fr := (0, 0)) (Blk.new_at _ _ _ _ (by simp)))) ((by simp [Value.oneCell'])) (by omega) (by unfold maxLen; omega) (by omega) (by first | omega | (simp; done) | (simp; omega)) (w2.heap.size + 1) (by simp) ?_; intro ag9 ac9 aw9 aown9 agrow9 aat9 alt9)
            have hfin := hide (And.intro aown9 agrow9)
            go_meet
            rw [nameFl_bad Hnb.out]
            exact ⟨H2.out.1.app _ hfin.out.1 hfin.out.2 HP.out.1 rfl, H2.out.1.blk _ hfin.out.2 H2.out.2 (by decide)⟩
          | true =>
            have Hnb := hide hnb
            clear hnb
            have hb := HW.out.1.fr0 H2.out.1.2
            have p0 := hb.at_ 0 (v := .slice s.A1 s.n1 s.c1) rfl
            have p1 := hb.at_ 1 (v := .slice s.A2 s.n2 s.c2) rfl
            have lp := hb.lt
            rw [HA.out] at p0
            clear hb
            go_wp2_with fail
            refine (HFd.out _ (HW.out.2.1.trans H2.out.1.2)).mono ?_
            rintro e w3 ⟨rfl, hf3⟩
            have H3 := hide (And.intro (H2.out.1.fr hf3) (H2.out.2.fr0 hf3))
            have hsz3 : w0.heap.size ≤ w3.heap.size := H3.out.1.2.size
            clear hf3 p0 p1 lp e0 le
            simp only [isAt]
            have htk : takenC s.cn x.name i = ((findI (s.cs.map (·.name)) x.name).isSome && decide ((findI (s.cs.map (·.name)) x.name).getD 0 < i)) := rfl
            generalize findI (s.cs.map (·.name)) x.name = o at *
            have Htk := hide htk
            clear htk
            have ways : (∃ f : Nat, o = some f ∧ f < i ∧ takenC s.cn x.name i = true) ∨ (takenC s.cn x.name i = false ∧ (o = none ∨ ∃ f : Nat, o = some f ∧ ¬ f < i)) := by
              rw [Htk.out]
              cases o with
              | none => exact .inr ⟨rfl, .inl rfl⟩
              | some f =>
                by_cases h : f < i
                · exact .inl ⟨f, rfl, h, by simp [h]⟩
                · exact .inr ⟨by simp [h], .inr ⟨f, rfl, h⟩⟩
            rcases ways with ⟨f, rfl, hfi, ht⟩ | ⟨ht, rfl | ⟨f, rfl, hfi⟩⟩
            · have Ht := hide ht
              have hfi' : (f : Int) < (i : Int) := by omega
              have hfi2 : decide (f < i) = true := decide_eq_true hfi
              clear ht
              go_wp2_with (at_builtin; refine wpList_append_lies _ rfl _ _ _ rfl w0.heap.size 78 i9 _ 2 24 Tryd.underlying54 hi9 hz9 hs9 hb9 rfl (by omega) (u3) (fl.length) ((fl.map lf).flatMap encL) rfl ((H3.out.1.1.alloc _)) (⟨w3.heap.size, 0, none⟩) (1) (1) ([.string N, .int .i64 9]) rfl (rfl) ((World.news_of_block (cs := #[.string N, .int .i64 9]) (t := 78) (fr := (0, 0)) (Blk.new_at _ _ _ _ (by simp)))) ((by simp [Value.oneCell'])) (by omega) (by unfold maxLen; omega) (by omega) (by first | omega | (simp; done) | (simp; omega)) (w3.heap.size + 1) (by simp) ?_; intro ag9 ac9 aw9 aown9 agrow9 aat9 alt9)
              have hfin := hide (And.intro aown9 agrow9)
              go_meet
              rw [nameFl_tk Hnb.out Ht.out]
              exact ⟨H3.out.1.app _ hfin.out.1 hfin.out.2 HP.out.1 rfl, H3.out.1.blk _ hfin.out.2 H3.out.2 (by decide)⟩
            · have Ht := hide ht
              clear ht
              go_wp2_with fail
              go_meet
              rw [nameFl_ok Hnb.out Ht.out, List.append_nil]
              exact H3.out
            · have Ht := hide ht
              have hfi' : ¬ (f : Int) < (i : Int) := by omega
              have hfi2 : decide (f < i) = false := decide_eq_false hfi
              clear ht
              go_wp2_with fail
              go_meet
              rw [nameFl_ok Hnb.out Ht.out, List.append_nil]
              exact H3.out
        case rest =>
          obtain ⟨hri3, hbc3⟩ := hcut
          have e1 := hbc3.at_ 1 (v := .int .i64 x.width) rfl
          have e4 := hbc3.at_ 4 (v := .int .i64 x.d1) rfl
          have e5 := hbc3.at_ 5 (v := .int .i64 x.d2) rfl
          have e6 := hbc3.at_ 6 (v := .int .i64 x.d3) rfl
          have le3 := hbc3.lt
          have hfl4 := nameFl_len sComps i x.name (takenC s.cn x.name i)
          obtain ⟨fl3, hfl3⟩ : ∃ fl3, fl3 = fl ++ nameFl sComps i x.name (takenC s.cn x.name i) := ⟨_, rfl⟩
          rw [← hfl3] at hri3
          have hl3 : fl3.length ≤ 82 := by rw [hfl3, List.length_append]; omega
          have hE := HR.out.2
          rw [← hfl3] at hE
          have H3 := hide (And.intro hri3 hE)
          have hsz3 : w0.heap.size ≤ wc.heap.size := hri3.2.size
          clear hri3 hbc3 hfl4 hfl3 hE e0 le H2 HN HFd HD c1 c2 c3 hfl
          by_cases hw1 : x.width < 1
          · have hwf : widthFl i x = [([sComps, digS i, sWidth], 1)] := by unfold widthFl; rw [if_neg (by omega)]
            have HWf := hide hwf
            clear hwf
            go_wp2_with (at_builtin; refine wpList_append_lies _ rfl _ _ _ rfl w0.heap.size 78 i9 _ 2 24 Tryd.underlying54 hi9 hz9 hs9 hb9 rfl (by omega) (u3) (fl3.length) ((fl3.map lf).flatMap encL) rfl ((H3.out.1.1.alloc _)) (⟨wc.heap.size, 0, none⟩) (1) (1) ([.string Wd, .int .i64 1]) rfl (rfl) ((World.news_of_block (cs := #[.string Wd, .int .i64 1]) (t := 78) (fr := (0, 0)) (Blk.new_at _ _ _ _ (by simp)))) ((by simp [Value.oneCell'])) (by omega) (by unfold maxLen; omega) (by omega) (by first | omega | (simp; done) | (simp; omega)) (wc.heap.size + 1) (by simp) ?_; intro ag9 ac9 aw9 aown9 agrow9 aat9 alt9)
            have hfin := hide (And.intro aown9 agrow9)
            go_roundw
            case rel =>
              refine ⟨i + 1, by omega, by go_num, ?_⟩
              rw [H3.out.2, HWf.out]
              exact H3.out.1.app _ hfin.out.1 hfin.out.2 HP.out.2.1 rfl
            case measure => simp [intOf]; omega
          · by_cases hw4 : 4 < x.width
            · have hwf : widthFl i x = [([sComps, digS i, sWidth], 1)] := by unfold widthFl; rw [if_neg (by omega)]
              have HWf := hide hwf
              clear hwf
              go_wp2_with (at_builtin; refine wpList_append_lies _ rfl _ _ _ rfl w0.heap.size 78 i9 _ 2 24 Tryd.underlying54 hi9 hz9 hs9 hb9 rfl (by omega) (u3) (fl3.length) ((fl3.map lf).flatMap encL) rfl ((H3.out.1.1.alloc _)) (⟨wc.heap.size, 0, none⟩) (1) (1) ([.string Wd, .int .i64 1]) rfl (rfl) ((World.news_of_block (cs := #[.string Wd, .int .i64 1]) (t := 78) (fr := (0, 0)) (Blk.new_at _ _ _ _ (by simp)))) ((by simp [Value.oneCell'])) (by omega) (by unfold maxLen; omega) (by omega) (by first | omega | (simp; done) | (simp; omega)) (wc.heap.size + 1) (by simp) ?_; intro ag9 ac9 aw9 aown9 agrow9 aat9 alt9)
              have hfin := hide (And.intro aown9 agrow9)
              go_roundw
              case rel =>
                refine ⟨i + 1, by omega, by go_num, ?_⟩
                rw [H3.out.2, HWf.out]
                exact H3.out.1.app _ hfin.out.1 hfin.out.2 HP.out.2.1 rfl
              case measure => simp [intOf]; omega
            · have hw1' : 1 ≤ x.width := by omega
              have hw4' : x.width ≤ 4 := by omega
              have hwf : widthFl i x = if cleanB x = false then [([sComps, digS i, sDefault], 1)] else [] := by unfold widthFl; rw [if_pos ⟨hw1', hw4'⟩]
              have HWf := hide hwf
              clear hwf
              go_wp2_with fail
              go_loopw [9, 10] (fun s9 s10 wr2 => wc = wr2 ∧ ∃ e : Int, x.width ≤ e ∧ e ≤ 4 ∧ s10 = .int .i64 e ∧ s9 = .bool (clE x e)) (fun _ s10 _ => (4 - intOf s10).toNat)
              case atStart => exact ⟨rfl, x.width, by omega, hw4', rfl, by rw [clE_w x hw1' hw4']⟩
              case round =>
                obtain ⟨rfl, e, he, he4, rfl, rfl⟩ := hrel
                have He := hide he
                by_cases h4 : e < 4
                · have ways : (e = 1 ∧ clE x (e + 1) = (clE x e && (x.d1 == 0))) ∨ (e = 2 ∧ clE x (e + 1) = (clE x e && (x.d2 == 0))) ∨ (e = 3 ∧ clE x (e + 1) = (clE x e && (x.d3 == 0))) := by
                    have : e = 1 ∨ e = 2 ∨ e = 3 := by omega
                    rcases this with rfl | rfl | rfl
                    · exact .inl ⟨rfl, clE_succ x hw1' he (by omega) rfl⟩
                    · exact .inr (.inl ⟨rfl, clE_succ x hw1' he (by omega) rfl⟩)
                    · exact .inr (.inr ⟨rfl, clE_succ x hw1' he (by omega) rfl⟩)
                  clear he h4 he4
                  rcases ways with ⟨rfl, hc⟩ | ⟨rfl, hc⟩ | ⟨rfl, hc⟩
                  all_goals
                    have Hc := hide hc
                    clear hc
                    cases hq : clE x _ with
                    | false =>
                      rw [hq] at Hc
                      clear hq
                      go_wp2_with fail
                      go_roundw
                      case rel => exact ⟨trivial, _, by have := He.out; omega, by omega, rfl, (congrArg Value.bool Hc.out).symm⟩
                      case measure => simp [intOf]
                    | true =>
                      rw [hq] at Hc
                      clear hq
                      go_wp2_with fail
                      go_roundw
                      case rel => exact ⟨trivial, _, by have := He.out; omega, by omega, rfl, (congrArg Value.bool Hc.out).symm⟩
                      case measure => simp [intOf]
                · obtain rfl : e = 4 := by omega
                  rw [clE_4]
                  clear he h4 he4
                  cases hcl : cleanB x with
                  | false =>
                    rw [hcl, if_pos rfl] at HWf
                    clear hcl
                    go_wp2_with (at_builtin; refine wpList_append_lies _ rfl _ _ _ rfl w0.heap.size 78 i9 _ 2 24 Tryd.underlying54 hi9 hz9 hs9 hb9 rfl (by omega) (u3) (fl3.length) ((fl3.map lf).flatMap encL) rfl ((H3.out.1.1.alloc _)) (⟨wc.heap.size, 0, none⟩) (1) (1) ([.string Df, .int .i64 1]) rfl (rfl) ((World.news_of_block (cs := #[.string Df, .int .i64 1]) (t := 78) (fr := (0, 0)) (Blk.new_at _ _ _ _ (by simp)))) ((by simp [Value.oneCell'])) (by omega) (by unfold maxLen; omega) (by omega) (by first | omega | (simp; done) | (simp; omega)) (wc.heap.size + 1) (by simp) ?_; intro ag9 ac9 aw9 aown9 agrow9 aat9 alt9)
                    have hfin := hide (And.intro aown9 agrow9)
                    go_roundw
                    case rel =>
                      refine ⟨i + 1, by omega, by go_num, ?_⟩
                      rw [H3.out.2, HWf.out]
                      exact H3.out.1.app _ hfin.out.1 hfin.out.2 HP.out.2.2 rfl
                    case measure => simp [intOf]; omega
                  | true =>
                    rw [hcl, if_neg (by simp)] at HWf
                    clear hcl
                    go_wp2_with fail
                    go_roundw
                    case rel =>
                      refine ⟨i + 1, by omega, by go_num, ?_⟩
                      rw [H3.out.2, HWf.out, List.append_nil]
                      exact H3.out.1
                    case measure => simp [intOf]; omega
      · obtain rfl : i = s.n1 := by omega
        have j1 : ¬ (s.n1 : Int) < (s.n1 : Int) := by omega
        have HR := hide hri
        clear hri
        have hsz3 : w0.heap.size ≤ wr.heap.size := HR.out.2.size
        obtain ⟨f1, hf1⟩ : ∃ f1, f1 = f0 ++ compsFl s s.n1 := ⟨_, rfl⟩
        rw [← hf1] at HR hfl
        have HF1 := hide hf1
        clear hf1 hb HC
        go_upto_if 111 with (fail)
        go_cut [3] (fun v3 w' => RI w0 w' v3 (f1 ++ longFl sRess (decide (8 < s.n2))))
        case first =>
          by_cases h8 : 8 < s.n2
          · have h8' : (8 : Int) < (s.n2 : Int) := by omega
            go_wp2_with (at_builtin; refine wpList_append_lies _ rfl _ _ _ rfl w0.heap.size 78 i9 _ 2 24 Tryd.underlying54 hi9 hz9 hs9 hb9 rfl (by omega) (u3) (f1.length) ((f1.map lf).flatMap encL) rfl ((HR.out.1.alloc _)) (⟨wr.heap.size, 0, none⟩) (1) (1) ([.string sRess, .int .i64 4]) rfl (rfl) ((World.news_of_block (cs := #[.string sRess, .int .i64 4]) (t := 78) (fr := (0, 0)) (Blk.new_at _ _ _ _ (by simp)))) ((by simp [Value.oneCell'])) (by omega) (by unfold maxLen; omega) (by omega) (by first | omega | (simp; done) | (simp; omega)) (wr.heap.size + 1) (by simp) ?_; intro ag9 ac9 aw9 aown9 agrow9 aat9 alt9)
            have hfin := hide (And.intro aown9 agrow9)
            go_meet
            rw [decide_eq_true h8]
            exact HR.out.app (c := ([sRess], 4)) _ hfin.out.1 hfin.out.2 (joinB1 _) rfl
          · have h8' : ¬ (8 : Int) < (s.n2 : Int) := by omega
            go_wp2_with fail
            go_meet
            rw [decide_eq_false h8]
            show RI w0 wr _ (f1 ++ [])
            rw [List.append_nil]
            exact HR.out
        case rest =>
          obtain ⟨f2, hf2⟩ : ∃ f2, f2 = f1 ++ longFl sRess (decide (8 < s.n2)) := ⟨_, rfl⟩
          have hf2l : f2.length ≤ 82 := by have := longFl_len sRess (decide (8 < s.n2)); rw [hf2, List.length_append]; omega
          rw [← hf2] at hcut
          have HC := hide hcut
          have HF2 := hide hf2
          clear hcut hf2 p0 p1 lp HR hsz3 j1 hfl hin hi j0
          go_wp2_with fail
          go_loopw [3, 11] (fun s3 s11 wr => ∃ k : Nat, k ≤ s.n2 ∧ s11 = .int .i64 k ∧ RI w0 wr s3 (f2 ++ ressFl s k)) (fun _ s11 _ => s.n2 - (intOf s11).toNat)
          case atStart =>
            refine ⟨0, by omega, rfl, ?_⟩
            rw [show ressFl s 0 = [] from rfl, List.append_nil]
            exact HC.out
          case round =>
            clear HC
            obtain ⟨i, hi, rfl, hri⟩ := hrel
            have j0 : (0 : Int) ≤ (i : Int) := by omega
            have hb := HW.out.1.fr0 hri.2
            have p0 := hb.at_ 0 (v := .slice s.A1 s.n1 s.c1) rfl
            have p1 := hb.at_ 1 (v := .slice s.A2 s.n2 s.c2) rfl
            have lp := hb.lt
            have hfl : (f2 ++ ressFl s i).length ≤ 130 := by have := ressFl_len s i; rw [List.length_append]; omega
            by_cases hin : i < s.n2
            · have j1 : (i : Int) < (s.n2 : Int) := by omega
              obtain ⟨x, hx⟩ : ∃ x, s.rs[i]? = some x := ⟨s.rs[i]'(by have := H0.out.l2; omega), by simp⟩
              obtain ⟨b, off, hA, hbB, hcl⟩ := H0.out.r2.at_ encRs_len hx H0.out.l2
              have hbw : b < w.heap.size := by omega
              have hfw := HW.out.2.1.trans hri.2
              have a0 := (hfw.cell (p := ⟨b, off + (i * 2 + 0), none⟩) hbw (by simp)).trans (hcl 0 (.string x.name) rfl)
              rw [Nat.add_zero] at a0
              have lbr := Nat.lt_of_lt_of_le hbw hfw.size
              rw [hA] at p1
              have hfl' := ressFl_succ hx
              obtain ⟨fl, hflE⟩ : ∃ fl, fl = f2 ++ ressFl s i := ⟨_, rfl⟩
              rw [← hflE] at hri hfl
              have hfl2 : f2 ++ ressFl s (i + 1) = fl ++ resFl s.cn s.rn i x := by rw [hfl', hflE, ← List.append_assoc]
              have HR := hide (And.intro hri hfl2)
              obtain ⟨D, hD⟩ : ∃ D, D = digS i := ⟨_, rfl⟩
              have hDs : D.size ≤ 2 := by rw [hD]; exact digS_size i (by omega)
              obtain ⟨D1, hD1⟩ : ∃ D1, D1 = sRessSl ++ D := ⟨_, rfl⟩
              obtain ⟨N, hN⟩ : ∃ N, N = D1 ++ sSlName := ⟨_, rfl⟩
              have hs1 : D1.size ≤ 20 := by rw [hD1, ByteArray.size_append]; have : sRessSl.size = 10 := rfl; omega
              have c1 := cat_str sRessSl D (by have : sRessSl.size = 10 := rfl; omega)
              have c2 := cat_str D1 sSlName (by have : sSlName.size = 5 := rfl; omega)
              rw [← hD1] at c1
              rw [← hN] at c2
              have jo : joinB [sRess, digS i, sName] = N := by
                rw [path3, ← hD, hN, hD1, slR, slN]
                simp only [ByteArray.append_assoc]
              have HP := hide jo
              have HD := hide (fun W => digits_calls (w := W) (i := i) (by omega))
              rw [← hD] at HD
              have HN := hide (fun W => risname_calls (w := W) x.name (by have := H0.out.z2 x (List.mem_of_getElem? hx); omega))
              have HFd := hide (fun W (hf : Fr [] w W) => rfind_calls (c := s.c1) (cs := s.cs) ((H0.out.r1.up hB).fr0 hf) H0.out.l1 (by omega) s.A2 s.n2 s.c2 x.name)
              have HRs := hide (fun W (hf : Fr [] w W) => rres_calls (c := s.c2) (cs := s.rs) ((H0.out.r2.up hB).fr0 hf) H0.out.l2 (by omega) s.A1 s.n1 s.c1 x.name)
              rw [hA] at HFd HRs
              have HA := hide hA
              clear hri hfl' hfl2 hx hcl hfw hb hD hD1 hN jo hs1 hDs hflE hA
              go_wp2_with fail
              refine (HD.out _).mono ?_
              rintro e w2 ⟨rfl, hf2⟩
              have H2 := hide (HR.out.1.fr hf2)
              have hb2 := HW.out.1.fr0 H2.out.2
              clear a0 p0 p1 lp lbr hf2 HD
              have p0 := hb2.at_ 0 (v := .slice s.A1 s.n1 s.c1) rfl
              have p1 := hb2.at_ 1 (v := .slice s.A2 s.n2 s.c2) rfl
              have lp := hb2.lt
              rw [HA.out] at p1
              clear hb2
              go_wp2_with fail
              refine (HFd.out _ (HW.out.2.1.trans H2.out.2)).mono ?_
              rintro e w3 ⟨rfl, hf3⟩
              have H3 := hide (H2.out.fr hf3)
              have hb3 := HW.out.1.fr0 H3.out.2
              clear p0 p1 lp hf3 HFd
              have p0 := hb3.at_ 0 (v := .slice s.A1 s.n1 s.c1) rfl
              have p1 := hb3.at_ 1 (v := .slice s.A2 s.n2 s.c2) rfl
              have lp := hb3.lt
              rw [HA.out] at p1
              clear hb3
              simp only [isAt]
              have hre : resFl s.cn s.rn i x = nameFl sRess i x.name ((findI (s.cs.map (·.name)) x.name).isSome || ((findI (s.rs.map (·.name)) x.name).isSome && decide ((findI (s.rs.map (·.name)) x.name).getD 0 < i))) := rfl
              generalize findI (s.cs.map (·.name)) x.name = o1 at *
              go_wp2_with fail
              refine (HRs.out _ (HW.out.2.1.trans H3.out.2)).mono ?_
              rintro e w4 ⟨rfl, hf4⟩
              have H4 := hide (H3.out.fr hf4)
              have hsz4 : w0.heap.size ≤ w4.heap.size := H4.out.2.size
              clear p0 p1 lp hf4 HRs
              simp only [isAt]
              generalize findI (s.rs.map (·.name)) x.name = o2 at *
              obtain ⟨tk, htk⟩ : ∃ tk, tk = (o1.isSome || (o2.isSome && decide (o2.getD 0 < i))) := ⟨_, rfl⟩
              rw [← htk] at hre
              have ways : (∃ f, o1 = some f ∧ tk = true) ∨ (o1 = none ∧ o2 = none ∧ tk = false) ∨ (o1 = none ∧ ∃ f : Nat, o2 = some f ∧ ((f < i ∧ tk = true) ∨ (¬ f < i ∧ tk = false))) := by
                rw [htk]
                cases o1 with
                | some f => exact .inl ⟨f, rfl, rfl⟩
                | none =>
                  cases o2 with
                  | none => exact .inr (.inl ⟨rfl, rfl, rfl⟩)
                  | some f =>
                    by_cases h : f < i
                    · exact .inr (.inr ⟨rfl, f, rfl, .inl ⟨h, by simp [h]⟩⟩)
                    · exact .inr (.inr ⟨rfl, f, rfl, .inr ⟨h, by simp [h]⟩⟩)
              have Hre := hide hre
              clear hre htk
              go_wp2_with fail
              refine (HN.out _).mono ?_
              rintro e w' ⟨rfl, rfl⟩
              clear HN
              cases hnb : nameB x.name with
              | false =>
                have Hnb := hide hnb
                clear hnb ways
                go_wp2_with (at_builtin; refine wpList_append_lies _ rfl _ _ _ rfl w0.heap.size 78 i9 _ 2 24 Tryd.underlying54 hi9 hz9 hs9 hb9 rfl (by omega) (u3) (fl.length) ((fl.map lf).flatMap encL) rfl ((H4.out.1.alloc _)) (⟨w4.heap.size, 0, none⟩) (1) (1) ([.string N, .int .i64 10]) rfl (rfl) ((World.news_of_block (cs := #[.string N, .int .i64 10]) (t := 78) (fr := (0, 0)) (Blk.new_at _ _ _ _ (by simp)))) ((by simp [Value.oneCell'])) (by omega) (by unfold maxLen; omega) (by omega) (by first | omega | (simp; done) | (simp; omega)) (w4.heap.size + 1) (by simp) ?_; intro ag9 ac9 aw9 aown9 agrow9 aat9 alt9)
                have hfin := hide (And.intro aown9 agrow9)
                go_roundw
                case rel =>
                  refine ⟨i + 1, by omega, by go_num, ?_⟩
                  rw [HR.out.2, Hre.out, nameFl_bad Hnb.out]
                  exact H4.out.app _ hfin.out.1 hfin.out.2 HP.out rfl
                case measure => simp [intOf]; omega
              | true =>
                have Hnb := hide hnb
                clear hnb
                rcases ways with ⟨f, rfl, ht⟩ | ⟨rfl, rfl, ht⟩ | ⟨rfl, f, rfl, ⟨hfi, ht⟩ | ⟨hfi, ht⟩⟩
                · have Ht := hide ht
                  clear ht
                  go_wp2_with (at_builtin; refine wpList_append_lies _ rfl _ _ _ rfl w0.heap.size 78 i9 _ 2 24 Tryd.underlying54 hi9 hz9 hs9 hb9 rfl (by omega) (u3) (fl.length) ((fl.map lf).flatMap encL) rfl ((H4.out.1.alloc _)) (⟨w4.heap.size, 0, none⟩) (1) (1) ([.string N, .int .i64 9]) rfl (rfl) ((World.news_of_block (cs := #[.string N, .int .i64 9]) (t := 78) (fr := (0, 0)) (Blk.new_at _ _ _ _ (by simp)))) ((by simp [Value.oneCell'])) (by omega) (by unfold maxLen; omega) (by omega) (by first | omega | (simp; done) | (simp; omega)) (w4.heap.size + 1) (by simp) ?_; intro ag9 ac9 aw9 aown9 agrow9 aat9 alt9)
                  have hfin := hide (And.intro aown9 agrow9)
                  go_roundw
                  case rel =>
                    refine ⟨i + 1, by omega, by go_num, ?_⟩
                    rw [HR.out.2, Hre.out, nameFl_tk Hnb.out Ht.out]
                    exact H4.out.app _ hfin.out.1 hfin.out.2 HP.out rfl
                  case measure => simp [intOf]; omega
                · have Ht := hide ht
                  clear ht
                  go_wp2_with fail
                  go_roundw
                  case rel =>
                    refine ⟨i + 1, by omega, by go_num, ?_⟩
                    rw [HR.out.2, Hre.out, nameFl_ok Hnb.out Ht.out, List.append_nil]
                    exact H4.out
                  case measure => simp [intOf]; omega
                · have Ht := hide ht
                  have hfi' : (f : Int) < (i : Int) := by omega
                  have hfi2 : decide (f < i) = true := decide_eq_true hfi
                  clear ht
                  go_wp2_with (at_builtin; refine wpList_append_lies _ rfl _ _ _ rfl w0.heap.size 78 i9 _ 2 24 Tryd.underlying54 hi9 hz9 hs9 hb9 rfl (by omega) (u3) (fl.length) ((fl.map lf).flatMap encL) rfl ((H4.out.1.alloc _)) (⟨w4.heap.size, 0, none⟩) (1) (1) ([.string N, .int .i64 9]) rfl (rfl) ((World.news_of_block (cs := #[.string N, .int .i64 9]) (t := 78) (fr := (0, 0)) (Blk.new_at _ _ _ _ (by simp)))) ((by simp [Value.oneCell'])) (by omega) (by unfold maxLen; omega) (by omega) (by first | omega | (simp; done) | (simp; omega)) (w4.heap.size + 1) (by simp) ?_; intro ag9 ac9 aw9 aown9 agrow9 aat9 alt9)
                  have hfin := hide (And.intro aown9 agrow9)
                  go_roundw
                  case rel =>
                    refine ⟨i + 1, by omega, by go_num, ?_⟩
                    rw [HR.out.2, Hre.out, nameFl_tk Hnb.out Ht.out]
                    exact H4.out.app _ hfin.out.1 hfin.out.2 HP.out rfl
                  case measure => simp [intOf]; omega
                · have Ht := hide ht
                  have hfi' : ¬ (f : Int) < (i : Int) := by omega
                  have hfi2 : decide (f < i) = false := decide_eq_false hfi
                  clear ht
                  go_wp2_with fail
                  go_roundw
                  case rel =>
                    refine ⟨i + 1, by omega, by go_num, ?_⟩
                    rw [HR.out.2, Hre.out, nameFl_ok Hnb.out Ht.out, List.append_nil]
                    exact H4.out
                  case measure => simp [intOf]; omega
            · obtain rfl : i = s.n2 := by omega
              have j1 : ¬ (s.n2 : Int) < (s.n2 : Int) := by omega
              have hall : f2 ++ ressFl s s.n2 = allFl s := by rw [HF2.out, HF1.out, HF0.out]; rfl
              rw [hall] at hri
              have HR := hide hri
              clear hri hall hb
              go_wp2_with fail
              go_ret
              exact ⟨_, rfl, row_base HR.out.1 HW.out.2.1.size, HW.out.2.1.trans HR.out.2⟩
end Go.Proofs.YtnncbmbepdkfnaaDoor

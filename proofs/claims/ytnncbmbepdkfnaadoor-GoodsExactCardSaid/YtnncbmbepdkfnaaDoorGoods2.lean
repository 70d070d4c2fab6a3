/- Goods: New. -/
import Derived.Test.YtnncbmbepdkfnaaDoorGoods
import Derived.Deep.QuietTactic
namespace Go.Proofs.YtnncbmbepdkfnaaDoor
open Go.RowKit
theorem infoIntG : (Tryd.prog.info? 3).map (fun i => (i.zero, i.size, i.bytes)) = some (some (.int .i64 0), 1, 8) := by kernel_rfl
/-- what New gives -/
def NewPost (w : World) (ad : Nat → Addr) (s : Sa) (pv ev : Value) (w' : World) : Prop :=
  (allFl s ≠ [] ∧ pv = .pointer none ∧ WE w' ad ev sGoods (allFl s)) ∨ (allFl s = [] ∧ ev = .nilIface ∧ ∃ g S, pv = .pointer (some ⟨g, 0, none⟩) ∧ GR w.heap.size w' g (s.rs.map (·.name)) (s.rs.map (·.val)) 0 S)
set_option maxRecDepth 100000 in
set_option maxHeartbeats 4000000 in
theorem newG_calls {B : Nat} {w : World} {ad : Nat → Addr} {K : List Nat} (hK : K5 K) (hs : Sents K B w ad) {s : Sa} (hS : SaOk w B s) :
    Calls Tryd.prog 7 #[s.val] w fun e w' => ∃ pv ev, e = .returned (.tuple #[pv, ev]) ∧ NewPost w ad s pv ev w' ∧ Fr [] w w' := by
  have H0 := hide (And.intro hs hS)
  have m40 := hS.b2
  have hB := hs.le
  have hv : s.val = .agg #[.slice s.A1 s.n1 s.c1, .slice s.A2 s.n2 s.c2] := rfl
  have hmm := @run_makeMap Tryd.prog
  obtain ⟨i9, hi9, hz9, hs9, hb9⟩ := info_parts infoIntG
  have hf1 : Fr [] w (w.alloc (.cells #[.slice s.A1 s.n1 s.c1, .slice s.A2 s.n2 s.c2] 32)) := (Fr.refl _ _).alloc _
  have HC := hide (check_calls hK (s := s) (hs.fr0 hf1) (hS.fr hf1 (by simp) hB))
  rw [hv] at HC ⊢
  have H1 := hide hf1
  clear hs hS hv hf1
  go_enter Tryd.func7, Tryd.ntmps7
  go_wp2_with fail
  refine HC.out.mono ?_
  rintro e w2 ⟨v, rfl, hev, hf2⟩
  have H2 := hide (And.intro hev (H1.out.trans hf2))
  have hb2 := (Blk.new w 32 #[.slice s.A1 s.n1 s.c1, .slice s.A2 s.n2 s.c2]).fr0 hf2
  clear hf2 HC
  rcases hev.form with ⟨rfl, hnil⟩ | ⟨hne, t, a, rfl⟩
  · have p1 := hb2.at_ 1 (v := .slice s.A2 s.n2 s.c2) rfl
    have lp := hb2.lt
    have HN := hide hnil
    have n2 : ∀ (W : World), (binOp .neq 26 .nilIface .nilIface).run Tryd.prog W = .ok (.bool false) W := fun W => by kernel_rfl
    clear hev hb2 hnil
    go_wp2_with fail
    have hg0 : GR w.heap.size ((w2.alloc (.map #[] 0)).alloc (.cells #[.map (some w2.heap.size), .slice none 0 0, .int .i64 0] 70)) (w2.heap.size + 1) [] [] 0 [w2.heap.size + 1, w2.heap.size] :=
      ⟨w2.heap.size, .slice none 0 0, Blk.new_at _ _ _ _ (by simp), (MapB.new (enc := encS) w2).fr0 ((Fr.refl _ _).alloc _), World.ownsRow_nil _ _ _ _, by have := H2.out.2.size; omega, H2.out.2.size, rfl, rfl⟩
    have hf0 : Fr [] w ((w2.alloc (.map #[] 0)).alloc (.cells #[.map (some w2.heap.size), .slice none 0 0, .int .i64 0] 70)) := (H2.out.2.alloc _).alloc _
    generalize (w2.alloc (.map #[] 0)).alloc (.cells #[.map (some w2.heap.size), .slice none 0 0, .int .i64 0] 70) = w3 at *
    generalize w2.heap.size + 1 = g at *
    have H3 := hide (And.intro hg0 hf0)
    clear hg0 hf0 p1 lp
    have hfine := hide (fine H0.out.2.l1 H0.out.2.l2 HN.out)
    go_loopw [20] (fun s20 wr => ∃ (i : Nat) (S : List Nat), i ≤ s.n2 ∧ s20 = .int .i64 i ∧ GR w.heap.size wr g ((s.rs.map (·.name)).take i) ((s.rs.map (·.val)).take i) 0 S ∧ Fr [] w wr) (fun s20 _ => s.n2 - (intOf s20).toNat)
    case atStart => exact ⟨0, _, by omega, rfl, H3.out.1, H3.out.2⟩
    case round =>
      obtain ⟨i, S, hi, rfl, hgr, hf⟩ := hrel
      have j0 : (0 : Int) ≤ (i : Int) := by omega
      by_cases hin : i < s.n2
      · have j1 : (i : Int) < (s.n2 : Int) := by omega
        obtain ⟨x, hx⟩ : ∃ x, s.rs[i]? = some x := ⟨s.rs[i]'(by have := H0.out.2.l2; omega), by simp⟩
        obtain ⟨b, off, hA, hbB, hcl⟩ := H0.out.2.r2.at_ encRs_len hx H0.out.2.l2
        have hbw : b < w.heap.size := by omega
        have a0 := (hf.cell (p := ⟨b, off + (i * 2 + 0), none⟩) hbw (by simp)).trans (hcl 0 (.string x.name) rfl)
        have a1 := (hf.cell (p := ⟨b, off + (i * 2 + 1), none⟩) hbw (by simp)).trans (hcl 1 (.int .i64 x.val) rfl)
        rw [Nat.add_zero] at a0
        rw [← Nat.add_assoc] at a1
        have lbr := Nat.lt_of_lt_of_le hbw hf.size
        have hn0 : (s.rs.map (·.name))[i]? = some x.name := by rw [List.getElem?_map, hx]; rfl
        have hv0 : (s.rs.map (·.val))[i]? = some x.val := by rw [List.getElem?_map, hx]; rfl
        have hfresh : x.name ∉ (s.rs.map (·.name)).take i := by
          intro hm
          obtain ⟨q, hq⟩ := List.getElem?_of_mem hm
          rw [List.getElem?_take] at hq
          split at hq
          · rename_i hqi
            exact (findI_spec (hfine.out.r i x hx)).2 q hqi _ hq rfl
          · cases hq
        have hn1 : (s.rs.map (·.name)).take (i + 1) = (s.rs.map (·.name)).take i ++ [x.name] := by rw [List.take_add_one, hn0]; rfl
        have hv1 : (s.rs.map (·.val)).take (i + 1) = (s.rs.map (·.val)).take i ++ [x.val] := by rw [List.take_add_one, hv0]; rfl
        have hlen : ((s.rs.map (·.name)).take i).length = i := by rw [List.length_take, List.length_map, H0.out.2.l2]; omega
        have Hnv := hide (And.intro hn1 (And.intro hv1 hlen))
        clear hn0 hv0 hcl hx
        generalize (s.rs.map (·.name)).take i = ns at *
        generalize (s.rs.map (·.val)).take i = vs at *
        obtain ⟨m, vv, h1, h2, h3, h4, h5, h6, rfl⟩ := hgr
        have hvl : vs.length ≤ 40 := by omega
        have n1 : vv.ownBlock ≠ some g := row_blk_ne h3 h1 (by decide)
        have n2' : vv.ownBlock ≠ some m := row_map_ne h3 h2
        have n4 : g ≠ m := blk_map_ne h1 h2
        -- the copy of the resource
        have hfa : Fr [] wr (wr.alloc (.cells #[.string x.name, .int .i64 x.val] 65)).drew := ((Fr.refl _ _).alloc _).drew
        obtain ⟨w6, hup, hm6, f6⟩ := run_update (mt := 68) (kt := 9) (et := 3) Tryd.underlying68 key_str (h2.fr0 hfa) (k := x.name) (fun v => plc_mem hfresh 0 v) (.int .i64 (i : Int))
        simp only [encS] at hup
        have hg6 := (h1.fr0 hfa).fr f6 (by simpa using n4)
        have hr6 := (((Blk.new wr 65 #[.string x.name, .int .i64 x.val])).drew).fr f6 (by
          have := h2.lt
          simp; omega)
        have hrow6 := row_fr (row_fr h3 hfa (by simp)) f6 (fun k hk hm => n2' (by rw [hk]; simpa using hm))
        have hf6 : Fr [] w w6 := ((hf.alloc _).drew).step f6 (fun y hy => .inr (by rw [List.mem_singleton] at hy; omega))
        have hsz6 := hf6.size
        have g00 := (h1.alloc (.cells #[.string x.name, .int .i64 x.val] 65)).at_ 0 (v := .map (some m)) rfl
        have lg0 := (h1.alloc (.cells #[.string x.name, .int .i64 x.val] 65)).lt
        have g61 := hg6.at_ 1 (v := vv) rfl
        have lg6 := hg6.lt
        have r61 := hr6.at_ 1 (v := .int .i64 x.val) rfl
        have lr6 := hr6.lt
        have H6 := hide (And.intro hm6 (And.intro hg6 (And.intro hrow6 (And.intro hf6 (And.intro n1 (And.intro n2' n4))))))
        have HK := hide (And.intro h4 (And.intro h5 h6))
        clear h1 h2 h3 h4 h5 h6 hm6 hg6 hr6 hrow6 hf6 f6 hfa hf hfresh n1 n2' hn1 hv1 hlen
        obtain ⟨sA1, sn1, sc1, scs, sA2, sn2, sc2, srs⟩ := s
        dsimp only at hA hin hi j1 m40
        subst hA
        go_wp2_with fail
        go_region
        all_goals
          go_wp2_with fail
          go_region_law (first | (refine step_append_lies _ (by rfl) _ _ _ (by rfl) w.heap.size 3 i9 _ 1 8 Tryd.underlying36 hi9 hz9 hs9 hb9 rfl (by omega) vv vs.length (ints vs) (by rfl) ((H6.out.2.2.1.alloc _).drew) ⟨w6.heap.size, 0, none⟩ 1 1 [.int .i64 x.val] (by rfl) (by rfl) (World.news_of_block (cs := #[.int .i64 x.val]) (t := 3) (fr := (0, 0)) (Blk.new w6 3 #[.int .i64 x.val]).drew) (by simp [Value.oneCell']) (by omega) (by unfold maxLen; omega) (by omega) (by simp; omega) (w6.heap.size + 1) (by simp) ?_; intro g7 c7 w7 hown7 hgrow7 hat7 hlt7; have hg7 := ((H6.out.2.1.alloc _).drew).grown hgrow7 (Ne.symm H6.out.2.2.2.2.1); have H7 := hide (And.intro hown7 (And.intro hgrow7 hg7)); have lg7 := hg7.lt; have fg7 := hg7.frozen 1; have q7 := hg7.at_ 1 (v := vv) rfl; clear hown7 hgrow7 hat7 hlt7 hg7; go_wp2_with fail))
          all_goals
            go_wp2_with fail
            obtain ⟨hown7, hgrow7, hg7⟩ := H7.out
            have hTf : Fr vv.ownBlock.toList w6 w7 := (((Fr.refl _ _).alloc _).drew).grown hgrow7 (fun k hk => .inl (by simp [hk]))
            have hm7 := H6.out.1.fr hTf (fun hm => H6.out.2.2.2.2.2.1 (by simpa using hm))
            have ne7 : (Value.slice (some ⟨g7, 0, none⟩) (vs.length + 1) c7).ownBlock ≠ some g := row_blk_ne hown7 hg7 (by decide)
            have hf7 : Fr [] w w7 := H6.out.2.2.2.1.step hTf (fun y hy => .inr ((row_lt H6.out.2.2.1 (by simpa using hy)).2))
            refine ⟨⟨i + 1, g :: m :: [g7], by omega, by go_num, ?_, hf7.setCell (.inr HK.out.1) _⟩, by simp [intOf]; omega⟩
            rw [Hnv.out.1, Hnv.out.2.1]
            refine ⟨m, .slice (some ⟨g7, 0, none⟩) (vs.length + 1) c7, by simpa using hg7.set_ 1 (.slice (some ⟨g7, 0, none⟩) (vs.length + 1) c7), ?_, ?_, HK.out.1, HK.out.2.1, by rw [List.length_append, List.length_append, HK.out.2.2]; rfl, rfl⟩
            · have hm8 := hm7.fr (Fr.setCell (S := [g]) (Fr.refl _ w7) (p := ⟨g, 1, none⟩) (.inl (by simp)) (.slice (some ⟨g7, 0, none⟩) (vs.length + 1) c7)) (by simpa using Ne.symm H6.out.2.2.2.2.2.2)
              rw [show plc (ns ++ [x.name]) = plc ns ++ [(x.name, .int .i64 (i : Int))] by
                show plcFrom _ 0 = _
                rw [plc_snoc, Nat.zero_add, Hnv.out.2.2]]
              exact hm8
            · have := row_far hown7 (p := ⟨g, 1, none⟩) ne7 (.slice (some ⟨g7, 0, none⟩) (vs.length + 1) c7)
              rw [List.length_append, List.length_singleton, show ints (vs ++ [x.val]) = ints vs ++ [.int .i64 x.val] by simp [ints]]
              exact this
      · have j1 : ¬ (i : Int) < (s.n2 : Int) := by omega
        rw [List.take_of_length_le (by rw [List.length_map, H0.out.2.l2]; omega), List.take_of_length_le (by rw [List.length_map, H0.out.2.l2]; omega)] at hgr
        have HG := hide (And.intro hgr hf)
        clear hgr hf
        go_wp2_with fail
        go_ret2
        exact ⟨_, _, rfl, .inr ⟨HN.out, rfl, _, _, rfl, HG.out.1⟩, HG.out.2⟩
  · have n1 : ∀ (W : World), (binOp .neq 26 (.iface t (.pointer (some a))) .nilIface).run Tryd.prog W = .ok (.bool true) W := fun W => run_neq_held_nil W 26 t _ (by kernel_rfl)
    have HW := hide (wrong_calls hev)
    have Hne := hide hne
    clear hev hb2 hne
    go_wp2_with fail
    refine HW.out.mono ?_
    rintro e w3 ⟨x, rfl, hx, hf3⟩
    have H3 := hide (And.intro (hx Hne.out) (H2.out.2.trans hf3))
    clear hx hf3
    go_wp2_with fail
    go_ret2
    exact ⟨_, _, rfl, .inl ⟨Hne.out, rfl, H3.out.1⟩, H3.out.2⟩
end Go.Proofs.YtnncbmbepdkfnaaDoor

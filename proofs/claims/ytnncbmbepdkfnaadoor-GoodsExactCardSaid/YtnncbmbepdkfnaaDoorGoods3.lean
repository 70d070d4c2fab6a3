/- Goods by contracts: Len, Changes, Get, Set, Add, Named, All. -/
import Derived.Test.YtnncbmbepdkfnaaDoorGoods2
namespace Go.Proofs.YtnncbmbepdkfnaaDoor
open Go.RowKit
abbrev gp (g : Nat) : Value := .pointer (some ⟨g, 0, none⟩)
section
variable {B : Nat} {w : World} {g : Nat} {ns : List ByteArray} {vs : List Int} {ch : Int} {S : List Nat}
/-- what is known of the cells of an object -/
theorem GR.cells (h : GR B w g ns vs ch S) : ∃ m A c, w.cell? ⟨g, 0, none⟩ = some (.map (some m)) ∧ w.cell? ⟨g, 1, none⟩ = some (.slice A vs.length c) ∧ w.cell? ⟨g, 2, none⟩ = some (.int .i64 ch) ∧ g < w.heap.size ∧ MapB encS w m (plc ns) ∧ w.ownsRow B 3 1 (.slice A vs.length c) vs.length (ints vs) := by
  obtain ⟨m, vv, h1, h2, h3, h4, h5, h6, rfl⟩ := h
  obtain ⟨A, c, rfl⟩ : ∃ A c, vv = .slice A vs.length c := by
    rcases row_form h3 with ⟨rfl, h0, _⟩ | ⟨g, cap, rfl, _⟩
    · exact ⟨none, 0, by rw [h0]⟩
    · exact ⟨_, _, rfl⟩
  exact ⟨m, A, c, h1.at_ 0 rfl, h1.at_ 1 rfl, h1.at_ 2 rfl, h1.lt, h2, h3⟩
set_option maxRecDepth 100000 in
theorem lenG_calls (h : GR B w g ns vs ch S) : Calls Tryd.prog 18 #[gp g] w fun e w' => e = .returned (.int .i64 vs.length) ∧ w = w' := by
  obtain ⟨m, A, c, c0, c1, c2, lg, -, -⟩ := h.cells
  clear h
  go_enter Tryd.func18, Tryd.ntmps18
  go_wp2_with fail
  go_ret
  exact ⟨rfl, rfl⟩
set_option maxRecDepth 100000 in
theorem changes_calls (h : GR B w g ns vs ch S) : Calls Tryd.prog 12 #[gp g] w fun e w' => e = .returned (.int .i64 ch) ∧ w = w' := by
  obtain ⟨m, A, c, c0, c1, c2, lg, -, -⟩ := h.cells
  clear h
  go_enter Tryd.func12, Tryd.ntmps12
  go_wp2_with fail
  go_ret
  exact ⟨rfl, rfl⟩
set_option maxRecDepth 100000 in
theorem get_in (h : GR B w g ns vs ch S) (hl : vs.length ≤ 1000) {i : Nat} {x : Int} (hx : vs[i]? = some x) : Calls Tryd.prog 10 #[gp g, .int .i64 i] w fun e w' => e = .returned (.tuple #[.int .i64 x, .bool true]) ∧ w = w' := by
  have HL := hide (lenG_calls h)
  obtain ⟨m, A, c, c0, c1, c2, lg, -, hr⟩ := h.cells
  have hi := (List.getElem?_eq_some_iff.1 hx).1
  have i0 : (0 : Int) ≤ (i : Int) := by omega
  have i1 : (i : Int) < (vs.length : Int) := by omega
  rcases row_form hr with ⟨_, h0, _⟩ | ⟨ga, cap, hv, _, lga, _, _⟩
  · omega
  injection hv with e1 e2 e3
  subst e1 e3
  have a0 := row_cell hr (i := i) (u := .int .i64 x) (by unfold ints; rw [List.getElem?_map, hx]; rfl)
  clear h hr hx
  generalize vs.length = n at *
  go_enter Tryd.func10, Tryd.ntmps10
  go_wp2_with fail
  refine HL.out.mono ?_
  rintro e w' ⟨rfl, rfl⟩
  go_wp2_with fail
  go_ret2
  exact ⟨rfl, rfl⟩
set_option maxRecDepth 100000 in
theorem get_out (h : GR B w g ns vs ch S) (hl : vs.length ≤ 1000) {i : Int} (hi : i < 0 ∨ (vs.length : Int) ≤ i) : Calls Tryd.prog 10 #[gp g, .int .i64 i] w fun e w' => e = .returned (.tuple #[.int .i64 0, .bool false]) ∧ w = w' := by
  have HL := hide (lenG_calls h)
  clear h
  by_cases h0 : i < 0
  · go_enter Tryd.func10, Tryd.ntmps10
    go_wp2_with fail
    go_ret2
    exact ⟨rfl, rfl⟩
  · have h1 : (vs.length : Int) ≤ i := by omega
    generalize vs.length = n at *
    go_enter Tryd.func10, Tryd.ntmps10
    go_wp2_with fail
    refine HL.out.mono ?_
    rintro e w' ⟨rfl, rfl⟩
    go_wp2_with fail
    go_ret2
    exact ⟨rfl, rfl⟩
set_option maxRecDepth 100000 in
theorem namedG_calls (h : GR B w g ns vs ch S) (nm : ByteArray) : Calls Tryd.prog 11 #[gp g, .string nm] w fun e w' => e = .returned (isAt (findI ns nm)) ∧ w = w' := by
  obtain ⟨m, A, c, c0, c1, c2, lg, hm, -⟩ := h.cells
  have hl := run_lookup (mt := 68) (kt := 9) (et := 3) Tryd.underlying68 key_str (z := .int .i64 0) (fun w => Tryd.zeroValue3 w) hm nm
  have hv : ((findK nm (plc ns) 0).map (·.2)).getD (.int .i64 0) = .int .i64 (((findI ns nm).getD 0 : Nat) : Int) := by
    rw [plc_find]; cases findI ns nm <;> simp
  have hs : (findK nm (plc ns) 0).isSome = (findI ns nm).isSome := by
    have := congrArg Option.isSome (plc_find ns nm 0 0)
    simpa using this
  rw [hv, hs] at hl
  unfold isAt
  clear hv hs h hm
  generalize (((findI ns nm).getD 0 : Nat) : Int) = k at *
  generalize (findI ns nm).isSome = b at *
  simp only [encS] at hl
  go_enter Tryd.func11, Tryd.ntmps11
  go_wp2_with fail
  go_ret2
  exact ⟨rfl, rfl⟩
theorem ints_set (vs : List Int) (i : Nat) (x : Int) : (ints vs).set i (.int .i64 x) = ints (vs.set i x) := by
  unfold ints; rw [List.map_set]
set_option maxRecDepth 100000 in
set_option maxHeartbeats 2000000 in
theorem set_in (h : GR B w g ns vs ch S) (hl : vs.length ≤ 1000) {i : Nat} {x : Int} (hx : vs[i]? = some x) (v : Int) (h0 : 0 ≤ ch) (h1 : ch ≤ 1000000) :
    Calls Tryd.prog 9 #[gp g, .int .i64 i, .int .i64 v] w fun e w' => e = .returned (.tuple #[.int .i64 x, .nilIface]) ∧ GR B w' g ns (vs.set i v) (ch + 1) S ∧ Fr S w w' := by
  have HGt := hide (get_in h hl hx)
  have hi := (List.getElem?_eq_some_iff.1 hx).1
  have i0 : (0 : Int) ≤ (i : Int) := by omega
  have i1 : (i : Int) < (vs.length : Int) := by omega
  obtain ⟨m, vv, k1, k2, k3, k4, k5, k6, rfl⟩ := h
  rcases row_form k3 with ⟨_, h0, _⟩ | ⟨ga, cap, rfl, _, lga, _, _⟩
  · omega
  have n1 : ga ≠ g := fun e => row_blk_ne k3 k1 (by decide) (by rw [e]; rfl)
  have n1' := n1.symm
  have n2 : ga ≠ m := fun e => row_map_ne k3 k2 (by rw [e]; rfl)
  have n4 : g ≠ m := blk_map_ne k1 k2
  have c1 := k1.at_ 1 (v := .slice (some ⟨ga, 0, none⟩) vs.length cap) rfl
  have c2 := k1.at_ 2 (v := .int .i64 ch) rfl
  have lg := k1.lt
  have fg := k1.frozen 2
  obtain ⟨cur, hcur, -⟩ := row_blk k3
  have fa := hcur.frozen i
  have a0 := row_cell k3 (i := i) (u := .int .i64 x) (by unfold ints; rw [List.getElem?_map, hx]; rfl)
  have H := hide (And.intro k1 (And.intro k2 (And.intro k3 (And.intro k4 (And.intro k5 (And.intro k6 (And.intro n2 n4)))))))
  clear k1 k2 k3 k4 k5 k6 hx hcur cur n2 n4
  go_enter Tryd.func9, Tryd.ntmps9
  go_wp2_with fail
  refine HGt.out.mono ?_
  rintro e w' ⟨rfl, rfl⟩
  go_wp2_with fail
  go_ret2
  obtain ⟨k1, k2, k3, k4, k5, k6, n2, n4⟩ := H.out
  have hf1 : Fr [ga] w (w.setCell ⟨ga, i, none⟩ (.int .i64 v)) := (Fr.refl _ w).setCell (p := ⟨ga, i, none⟩) (.inl (by simp)) _
  have hr1 := row_store k3 i (by omega) (.int .i64 v)
  rw [ints_set] at hr1
  have hk1 := k1.far (p := ⟨ga, i, none⟩) n1' (.int .i64 v)
  have hm1 := k2.fr hf1 (by simpa using Ne.symm n2)
  generalize w.setCell ⟨ga, i, none⟩ (.int .i64 v) = w1 at *
  have hf2 : Fr [g] w1 (w1.setCell ⟨g, 2, none⟩ (.int .i64 (ch + 1))) := (Fr.refl _ w1).setCell (p := ⟨g, 2, none⟩) (.inl (by simp)) _
  refine ⟨rfl, ⟨m, .slice (some ⟨ga, 0, none⟩) vs.length cap, by simpa using hk1.set_ 2 (.int .i64 (ch + 1)), hm1.fr hf2 (by simpa using Ne.symm n4), ?_, k4, k5, by rw [List.length_set]; exact k6, rfl⟩, ?_⟩
  · rw [List.length_set]
    exact row_far hr1 (p := ⟨g, 2, none⟩) (by simp [Value.ownBlock, n1]) _
  · refine (hf1.mono (T := g :: m :: [ga]) (by simp)).step hf2 (by simp)
theorem sent_ev {w : World} {ad : Nat → Addr} {k : Nat} (h1 : 1 ≤ k) (h2 : k ≤ 18) : EV w ad (sv (ad k)) [([], k)] := (sent_hc (w := w) (ad := ad) (k := k) h1 h2).ev
/-- an error of goods, by its number -/
theorem wrongK_calls {w : World} {ad : Nat → Addr} {k : Nat} (h1 : 1 ≤ k) (h2 : k ≤ 18) : Calls Tryd.prog 28 #[sv (ad k)] w fun e w' => ∃ x, e = .returned x ∧ HC w' ad x ([sGoods], k) ∧ Fr [] w w' :=
  (wrong_calls (sent_ev h1 h2)).mono fun e w' h => by
    obtain ⟨x, h3, h4, h5⟩ := h
    exact ⟨x, h3, (h4 (by simp)).one, h5⟩
set_option maxRecDepth 100000 in
theorem set_out {B0 : Nat} {ad : Nat → Addr} {K : List Nat} (m7 : 7 ∈ K) (hs : Sents K B0 w ad) (h : GR B w g ns vs ch S) (hl : vs.length ≤ 1000) {i : Int} (hi : i < 0 ∨ (vs.length : Int) ≤ i) (v : Int) :
    Calls Tryd.prog 9 #[gp g, .int .i64 i, .int .i64 v] w fun e w' => ∃ x, e = .returned (.tuple #[.int .i64 0, x]) ∧ HC w' ad x ([sGoods], 7) ∧ Fr [] w w' := by
  have HGt := hide (get_out h hl hi)
  have HW := hide (wrongK_calls (w := w) (ad := ad) (k := 7) (by omega) (by omega))
  have g1 := hs.cell 7 m7
  have lg1 := Nat.lt_of_lt_of_le (hs.glob 7 m7) hs.le
  have e1 : gOf 7 = 1 := rfl
  rw [e1] at g1 lg1
  clear h hs e1
  go_enter Tryd.func9, Tryd.ntmps9
  go_wp2_with fail
  refine HGt.out.mono ?_
  rintro e w' ⟨rfl, rfl⟩
  go_wp2_with fail
  refine HW.out.mono ?_
  rintro e w2 ⟨x, rfl, hx, hf⟩
  have H2 := hide (And.intro hx hf)
  clear hx hf
  go_wp2_with fail
  go_ret2
  exact ⟨_, rfl, H2.out.1, H2.out.2⟩
theorem HC.not_nil {w : World} {ad : Nat → Addr} {v : Value} {c : Ch} (h : HC w ad v c) (W : World) : (binOp .neq 26 v .nilIface).run Tryd.prog W = .ok (.bool true) W := by
  rcases h.form with ⟨b, rfl⟩ | ⟨a, rfl⟩
  · exact run_neq_held_nil W 26 _ _ (by kernel_rfl)
  · exact run_neq_held_nil W 26 _ _ (by kernel_rfl)
set_option maxRecDepth 100000 in
set_option maxHeartbeats 1000000 in
theorem add_in (h : GR B w g ns vs ch S) (hl : vs.length ≤ 1000) {i : Nat} {x : Int} (hx : vs[i]? = some x) (v : Int) (h0 : 0 ≤ ch) (h1 : ch ≤ 1000000) :
    Calls Tryd.prog 14 #[gp g, .int .i64 i, .int .i64 v] w fun e w' => e = .returned (.tuple #[.int .i64 (IntKind.i64.wrap (x + v)), .nilIface]) ∧ GR B w' g ns (vs.set i (IntKind.i64.wrap (x + v))) (ch + 1) S ∧ Fr S w w' := by
  have HGt := hide (get_in h hl hx)
  have HSt := hide (set_in h hl hx (IntKind.i64.wrap (x + v)) h0 h1)
  have n2 : ∀ (W : World), (binOp .neq 26 .nilIface .nilIface).run Tryd.prog W = .ok (.bool false) W := fun W => by kernel_rfl
  generalize hy : IntKind.i64.wrap (x + v) = y at *
  clear h hx
  go_enter Tryd.func14, Tryd.ntmps14
  go_wp2_with fail
  refine HGt.out.mono ?_
  rintro e w' ⟨rfl, rfl⟩
  go_wp2_with fail
  refine HSt.out.mono ?_
  rintro e w2 ⟨rfl, hg, hf⟩
  have H2 := hide (And.intro hg hf)
  clear hg hf
  go_wp2_with fail
  go_ret2
  exact ⟨rfl, H2.out.1, H2.out.2⟩
end
end Go.Proofs.YtnncbmbepdkfnaaDoor

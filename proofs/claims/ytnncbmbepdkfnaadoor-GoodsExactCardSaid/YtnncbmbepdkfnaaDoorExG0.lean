/- GoodsExact: what is wanted of calls that fail, of numbers of errors, of leaves; what holds at the loop's head. -/
import Derived.Test.YtnncbmbepdkfnaaDoorRefG2
import Derived.Test.YtnncbmbepdkfnaaDoorTree9
import Derived.Test.YtnncbmbepdkfnaaDoorSchemaArg
import Derived.Test.YtnncbmbepdkfnaaDoorActG
namespace Go.Proofs.YtnncbmbepdkfnaaDoor
open Go.RowKit
theorem k5all : K5 All18 := ⟨mem_all18 (by omega) (by omega), mem_all18 (by omega) (by omega), mem_all18 (by omega) (by omega), mem_all18 (by omega) (by omega)⟩
theorem m7all : 7 ∈ All18 := mem_all18 (by omega) (by omega)
section
variable {B : Nat} {w : World} {g : Nat} {ns : List ByteArray} {vs : List Int} {ch : Int} {S : List Nat}
set_option maxRecDepth 100000 in
theorem add_out {B0 : Nat} {ad : Nat → Addr} {K : List Nat} (m7 : 7 ∈ K) (hs : Sents K B0 w ad) (h : GR B w g ns vs ch S) (hl : vs.length ≤ 1000) {i : Int} (hi : i < 0 ∨ (vs.length : Int) ≤ i) (v : Int) :
    Calls Tryd.prog 14 #[gp g, .int .i64 i, .int .i64 v] w fun e w' => ∃ x, e = .returned (.tuple #[.int .i64 0, x]) ∧ HC w' ad x ([sGoods], 7) ∧ Fr [] w w' := by
  have HGt := hide (get_out h hl hi)
  have HS := hide (set_out m7 hs h hl hi (IntKind.i64.wrap (0 + v)))
  generalize hy : IntKind.i64.wrap (0 + v) = y at *
  have hy2 : IntKind.i64.wrap v = y := by rw [← hy, Int.zero_add]
  clear hs h
  go_enter Tryd.func14, Tryd.ntmps14
  go_wp2_with fail
  refine HGt.out.mono ?_
  rintro e w' ⟨rfl, rfl⟩
  go_wp2_with fail
  refine HS.out.mono ?_
  rintro e w2 ⟨x, rfl, hx, hf⟩
  have hne := hx.not_nil
  have H2 := hide (And.intro hx hf)
  rcases hx.form with ⟨b, rfl⟩ | ⟨a, rfl⟩
  all_goals
    clear hx hf
    go_wp2_with fail
    go_ret2
    exact ⟨_, rfl, H2.out.1, H2.out.2⟩
end
theorem num_nil {B : Nat} {w : World} {ad : Nat → Addr} (hs : Sents All18 B w ad) : Calls Tryd.prog 23 #[.nilIface] w fun e w' => e = .returned (.int .i64 0) ∧ Fr [] w w' :=
  number_ev hs (cs := []) (.inl ⟨rfl, rfl⟩) (by simp) (.inl ⟨rfl, rfl⟩)
theorem num_hc {B : Nat} {w : World} {ad : Nat → Addr} (hs : Sents All18 B w ad) {x : Value} {c : Ch} (h : HC w ad x c) : Calls Tryd.prog 23 #[x] w fun e w' => e = .returned (.int .i64 (c.2 : Nat)) ∧ Fr [] w w' :=
  number_ev hs h.ev (by simp) (.inr ⟨by simp [nums], h.1, h.2.1, by simp [nums]⟩)
/-! ### Bounds of the leaves -/
def Sml (c : Ch) : Prop := (∃ k, c.1 = [k] ∧ k.size ≤ 10) ∨ ∃ k i z, c.1 = [k, digS i, z] ∧ k.size ≤ 10 ∧ z.size ≤ 7 ∧ i < 100
theorem nameFl_sml {k : ByteArray} {i : Nat} {nm : ByteArray} {t : Bool} (hk : k.size ≤ 10) (hi : i < 100) : ∀ c ∈ nameFl k i nm t, Sml c := by
  intro c hc
  have hz : sName.size ≤ 7 := by decide
  unfold nameFl at hc
  split at hc
  · simp at hc; exact .inr ⟨k, i, sName, by rw [hc], hk, hz, hi⟩
  · split at hc
    · simp at hc; exact .inr ⟨k, i, sName, by rw [hc], hk, hz, hi⟩
    · simp at hc
theorem allFl_sml {s : Sa} (h1 : s.n1 ≤ 40) (h2 : s.n2 ≤ 40) : ∀ c ∈ allFl s, Sml c := by
  intro c hc
  have z1 : sComps.size ≤ 10 := by decide
  have z2 : sRess.size ≤ 10 := by decide
  have z3 : sWidth.size ≤ 7 := by decide
  have z4 : sDefault.size ≤ 7 := by decide
  unfold allFl at hc
  simp only [List.mem_append] at hc
  rcases hc with ((hc | hc) | hc) | hc
  · unfold longFl at hc
    split at hc
    · simp at hc; exact .inl ⟨sComps, by rw [hc], z1⟩
    · simp at hc
  · unfold compsFl at hc
    obtain ⟨i, hi, hc⟩ := List.mem_flatMap.1 hc
    have hi' := List.mem_range.1 hi
    cases hx : s.cs[i]? with
    | none => rw [hx] at hc; simp at hc
    | some x =>
      rw [hx] at hc
      simp only [Option.map_some, Option.getD_some, compFl, List.mem_append] at hc
      rcases hc with hc | hc
      · exact nameFl_sml z1 (by omega) c hc
      · unfold widthFl at hc
        split at hc
        · split at hc
          · simp at hc; exact .inr ⟨sComps, i, sDefault, by rw [hc], z1, z4, by omega⟩
          · simp at hc
        · simp at hc; exact .inr ⟨sComps, i, sWidth, by rw [hc], z1, z3, by omega⟩
  · unfold longFl at hc
    split at hc
    · simp at hc; exact .inl ⟨sRess, by rw [hc], z2⟩
    · simp at hc
  · unfold ressFl at hc
    obtain ⟨i, hi, hc⟩ := List.mem_flatMap.1 hc
    have hi' := List.mem_range.1 hi
    cases hx : s.rs[i]? with
    | none => rw [hx] at hc; simp at hc
    | some x =>
      rw [hx] at hc
      simp only [Option.map_some, Option.getD_some, resFl] at hc
      exact nameFl_sml z2 (by omega) c hc
theorem plen_join (ws : List ByteArray) : plen ws = (joinB ws).size := by
  unfold plen joinB
  exact (List.size_toArray).symm
theorem sml_bd {cs : List Ch} (h : ∀ c ∈ cs, Sml c) : Bd [sGoods] cs := by
  intro c hc
  have hg : sGoods.size = 5 := rfl
  have hsl : sSl.size = 1 := rfl
  rw [List.singleton_append]
  rcases h c hc with ⟨k, hk, h1⟩ | ⟨k, i, z, hk, h1, h2, h3⟩
  · rw [hk]
    refine ⟨by simp, ?_⟩
    rw [plen_join, joinB2 _ _ (by simp), joinB1]
    simp only [ByteArray.size_append]
    have : (ByteArray.mk #[47]).size = 1 := rfl
    omega
  · rw [hk]
    refine ⟨by simp, ?_⟩
    rw [plen_join, joinB2 _ _ (by simp), path3]
    have := digS_size i h3
    simp only [ByteArray.size_append]
    have : (ByteArray.mk #[47]).size = 1 := rfl
    omega
theorem GR.notin {B : Nat} {w : World} {g : Nat} {ns : List ByteArray} {vs : List Int} {ch : Int} {S : List Nat} (h : GR B w g ns vs ch S) {b : Nat} {cs : Array Value} (hb : Blk w b 38 cs) : b ∉ S := by
  obtain ⟨m, vv, h1, h2, h3, h4, h5, h6, rfl⟩ := h
  intro hm
  simp only [List.mem_cons, Option.mem_toList] at hm
  rcases hm with e | e | e
  · exact Blk.ne_ hb h1 (by decide) e
  · exact blk_map_ne hb h2 e
  · exact row_blk_ne h3 hb (by decide) e
theorem RG.notin {B : Nat} {w : World} {u : Nat} {s : Sa} {vs : List Int} {k : Int} {T : List Nat} (h : RG B w u s vs k T) {b : Nat} {cs : Array Value} (hb : Blk w b 38 cs) : b ∉ T := by
  obtain ⟨lv, h1, h2, h3, rfl⟩ := h
  intro hm
  simp only [List.mem_cons, Option.mem_toList] at hm
  rcases hm with e | e
  · exact Blk.ne_ hb h1 (by decide) e
  · exact row_blk_ne h2 hb (by decide) e
theorem reads_at {w : World} {B n : Nat} {A : Option Addr} {xs : List Int} (h : Reads w B 1 A n (xs.flatMap encI)) (hl : xs.length = n) {i : Nat} {y : Int} (hx : xs[i]? = some y) : ∃ b off, A = some ⟨b, off, none⟩ ∧ b < B ∧ w.cell? ⟨b, off + i, none⟩ = some (.int .i64 y) := by
  have hi := (List.getElem?_eq_some_iff.1 hx).1
  obtain ⟨b, off, e, hb, hc⟩ := h.2 (by omega)
  refine ⟨b, off, e, hb, hc i _ ?_⟩
  have := flat_get (f := encI) (k := 1) encI_len hx 0 (by omega)
  rw [Nat.mul_one, Nat.add_zero] at this
  rw [this]; rfl
/-! ### The loop's head -/
def LX (w1 wr : World) (g u : Nat) (s : Sa) (S : List Nat) (m : Nat) : Prop :=
  ∃ vs ch T, vs.length = s.n2 ∧ 0 ≤ ch ∧ ch ≤ 41 * (m : Int) ∧ GR w1.heap.size wr g (s.rs.map (·.name)) vs ch S ∧ RG w1.heap.size wr u s vs ch T ∧ (∀ b ∈ T, b ∉ S) ∧ Fr [] w1 wr
theorem LX.fr0 {w1 wr wq : World} {g u : Nat} {s : Sa} {S : List Nat} {m : Nat} (h : LX w1 wr g u s S m) (hf : Fr [] wr wq) : LX w1 wq g u s S m := by
  obtain ⟨vs, ch, T, h1, h2, h3, h4, h5, h6, h7⟩ := h
  exact ⟨vs, ch, T, h1, h2, h3, h4.fr0 hf, h5.fr0 hf, h6, h7.trans hf⟩
/-- both turn: first the goods, then the reference's -/
theorem both {w1 wr wa wb : World} {g u : Nat} {s : Sa} {S T T' : List Nat} {vs xs : List Int} {ch ch' : Int} {ns : List ByteArray} (hG : GR w1.heap.size wr g ns vs ch S) (hR : RG w1.heap.size wr u s vs ch T) (hd : ∀ b ∈ T, b ∉ S) (hf : Fr [] w1 wr)
    (hG2 : GR w1.heap.size wa g ns xs ch' S) (hfa : Fr S wr wa) (hR2 : RG w1.heap.size wb u s xs ch' T') (hst : Stp T T' wa wb) :
    GR w1.heap.size wb g ns xs ch' S ∧ (∀ b ∈ T', b ∉ S) ∧ Fr [] w1 wb := by
  have hfa1 : Fr [] w1 wa := hf.step hfa (fun b hb => .inr (hG.ge b hb).1)
  refine ⟨hG2.fr hst.1 (fun b hb hm => hd b hm hb), fun b hb hm => ?_, hfa1.step hst.1 (fun b hb => .inr (hR.ge b hb).1)⟩
  rcases hst.2 b hb with h | h
  · exact hd b h hm
  · have := (hG2.ge b hm).2
    omega
end Go.Proofs.YtnncbmbepdkfnaaDoor

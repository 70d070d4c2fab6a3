/- Goods as an object: a map of places, a row of numbers, how often one was set; wrong; New. -/
import Derived.Test.YtnncbmbepdkfnaaDoorFine
import Derived.Test.YtnncbmbepdkfnaaDoorMaps
namespace Go.Proofs.YtnncbmbepdkfnaaDoor
open Go.RowKit
abbrev sGoods : ByteArray := ⟨#[103, 111, 111, 100, 115]⟩
abbrev encS (s : ByteArray) : Value := .string s
theorem ba_beq (a b : ByteArray) : (a == b) = decide (a = b) := by
  show (a.data == b.data) = _
  by_cases h : a = b
  · subst h; simp
  · rw [decide_eq_false h]
    simpa using fun e => h (ByteArray.ext e)
theorem key_str : KeyLaw encS Tryd.prog 9 where
  check := fun b k w => Go.MapKept.run_checkKey Tryd.underlying9 (by simp [Go.MapKept.IsKey]) b 9999
  find := fun k l es h w => Go.MapKept.run_findKey Tryd.underlying9 (find_now (fun a b => by
    have := ba_beq a b
    simp [Instr.sameNow, this]) k l es 0 h)
/-- the places of names -/
def plcFrom : List ByteArray → Nat → List (ByteArray × Value)
  | [], _ => []
  | n :: r, i => (n, .int .i64 (i : Nat)) :: plcFrom r (i + 1)
abbrev plc (ns : List ByteArray) : List (ByteArray × Value) := plcFrom ns 0
theorem plc_snoc (ns : List ByteArray) (n : ByteArray) : ∀ i, plcFrom (ns ++ [n]) i = plcFrom ns i ++ [(n, .int .i64 ((i + ns.length : Nat) : Int))] := by
  induction ns with
  | nil => intro i; rfl
  | cons a r ih =>
    intro i
    rw [List.cons_append, plcFrom, ih, plcFrom, List.cons_append, List.length_cons, show i + 1 + r.length = i + (r.length + 1) by omega]
theorem plc_mem {ns : List ByteArray} {n : ByteArray} (h : n ∉ ns) : ∀ i v, (n, v) ∉ plcFrom ns i := by
  induction ns with
  | nil => intro i v hm; cases hm
  | cons a r ih =>
    intro i v hm
    rw [plcFrom, List.mem_cons] at hm
    rcases hm with hm | hm
    · exact h (by rw [(Prod.mk.inj hm).1]; simp)
    · exact ih (fun hr => h (List.mem_cons_of_mem _ hr)) _ v hm
theorem plc_find (ns : List ByteArray) (n : ByteArray) : ∀ i k, (findK n (plcFrom ns i) k).map (·.2) = (findI ns n).map fun j => Value.int .i64 ((i + j : Nat) : Int) := by
  induction ns with
  | nil => intro i k; rfl
  | cons a r ih =>
    intro i k
    unfold plcFrom findK findI
    rw [List.findIdx?_cons]
    by_cases h : n = a
    · rw [if_pos h, decide_eq_true h.symm]; rfl
    · rw [if_neg h, decide_eq_false (fun e => h e.symm), ih]
      simp only [Bool.false_eq_true, if_false, Option.map_map]
      unfold findI
      congr 1
      funext j
      simp only [Function.comp]
      rw [show i + 1 + j = i + (j + 1) by omega]
def GR (B : Nat) (w : World) (g : Nat) (ns : List ByteArray) (vs : List Int) (ch : Int) (S : List Nat) : Prop :=
  ∃ m vv, Blk w g 70 #[.map (some m), vv, .int .i64 ch] ∧ MapB encS w m (plc ns) ∧ w.ownsRow B 3 1 vv vs.length (ints vs) ∧ B ≤ g ∧ B ≤ m ∧ ns.length = vs.length ∧ S = g :: m :: vv.ownBlock.toList
section
variable {κ : Type} {enc : κ → Value} {w w' : World} {g m : Nat} {t : TypeId} {cs : Array Value} {l : List (κ × Value)}
theorem blk_map_ne (h : Blk w g t cs) (hm : MapB enc w m l) : g ≠ m := by
  rintro rfl
  obtain ⟨es, clock, h1, -⟩ := hm
  unfold Blk at h
  rw [h] at h1
  cases h1
theorem row_map_ne {B n size : Nat} {v : Value} {xs : List Value} (h : w.ownsRow B t size v n xs) (hm : MapB enc w m l) : v.ownBlock ≠ some m := by
  rcases row_form h with ⟨rfl, _⟩ | ⟨g, cap, rfl, _⟩
  · simp [Value.ownBlock]
  · obtain ⟨cur, hg, _⟩ := row_blk h
    intro e
    exact blk_map_ne hg hm (Option.some.inj e)
end
section
variable {B : Nat} {w w' : World} {g : Nat} {ns : List ByteArray} {vs : List Int} {ch : Int} {S T : List Nat}
theorem GR.fr (h : GR B w g ns vs ch S) (hf : Fr T w w') (hT : ∀ b ∈ S, b ∉ T) : GR B w' g ns vs ch S := by
  obtain ⟨m, vv, h1, h2, h3, h4, h5, h6, rfl⟩ := h
  exact ⟨m, vv, h1.fr hf (hT _ (by simp)), h2.fr hf (hT _ (by simp)), row_fr h3 hf (fun k hk => hT k (by simp [hk])), h4, h5, h6, rfl⟩
theorem GR.fr0 (h : GR B w g ns vs ch S) (hf : Fr [] w w') : GR B w' g ns vs ch S := h.fr hf (by simp)
theorem GR.ge (h : GR B w g ns vs ch S) : ∀ b ∈ S, B ≤ b ∧ b < w.heap.size := by
  obtain ⟨m, vv, h1, h2, h3, h4, h5, h6, rfl⟩ := h
  intro b hb
  simp only [List.mem_cons, Option.mem_toList] at hb
  rcases hb with rfl | rfl | hb
  · exact ⟨h4, h1.lt⟩
  · exact ⟨h5, h2.lt⟩
  · have := row_lt h3 hb; exact ⟨this.2, this.1⟩
theorem GR.mem (h : GR B w g ns vs ch S) : g ∈ S := by
  obtain ⟨m, vv, h1, h2, h3, h4, h5, h6, rfl⟩ := h
  simp
theorem GR.up {B' : Nat} (h : GR B w g ns vs ch S) (hB : B' ≤ B) : GR B' w g ns vs ch S := by
  obtain ⟨m, vv, h1, h2, h3, h4, h5, h6, rfl⟩ := h
  exact ⟨m, vv, h1, h2, row_base h3 hB, by omega, by omega, h6, rfl⟩
end
set_option maxRecDepth 100000 in
theorem wrong_calls {w : World} {ad : Nat → Addr} {v : Value} {cs : List Ch} (h : EV w ad v cs) : Calls Tryd.prog 28 #[v] w fun e w' => ∃ x, e = .returned x ∧ (cs ≠ [] → WE w' ad x sGoods cs) ∧ Fr [] w w' := by
  have H := hide (at_ev h sGoods)
  clear h
  go_enter Tryd.func28, Tryd.ntmps28
  go_wp2_with fail
  refine H.out.mono ?_
  rintro e w' ⟨x, rfl, -, h2, hf⟩
  have H2 := hide (And.intro h2 hf)
  clear h2 hf
  go_wp2_with fail
  go_ret
  exact ⟨_, rfl, H2.out.1, H2.out.2⟩
end Go.Proofs.YtnncbmbepdkfnaaDoor

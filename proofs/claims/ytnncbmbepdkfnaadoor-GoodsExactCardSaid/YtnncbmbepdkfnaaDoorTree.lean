/- Errors as they are: nothing, one (Blames with their places over a sentinel), or several of these; Several.Unwrap; errors.Is. -/
import Derived.Test.YtnncbmbepdkfnaaDoorNum
import Derived.Deep.CutBlock
namespace Go.Proofs.YtnncbmbepdkfnaaDoor
open Go.RowKit Go.Extern.Stop Go.Stop Go.Extern

abbrev Ch := List ByteArray × Nat
abbrev bv (b : Nat) : Value := .iface 104 (.pointer (some ⟨b, 0, none⟩))
abbrev se (g : Nat) : Value := .iface 108 (.pointer (some ⟨g, 0, none⟩))
/-- Blames with their places over the sentinel of number k -/
inductive ChainS (w : World) (ad : Nat → Addr) (k : Nat) : Value → List ByteArray → List Nat → Prop where
  | sent : ChainS w ad k (sv (ad k)) [] []
  | blame (b : Nat) (s : ByteArray) (v : Value) (ws : List ByteArray) (T : List Nat) : Blk w b 107 #[.string s, v] → ChainS w ad k v ws T → ChainS w ad k (bv b) (s :: ws) (b :: T)
section
variable {w w' : World} {ad : Nat → Addr} {k : Nat} {v : Value} {ws : List ByteArray} {T : List Nat}
theorem ChainS.chain (h : ChainS w ad k v ws T) : Chain w ad k v T := by
  induction h with
  | sent => exact .sent
  | blame b s v ws T hb _ ih => exact .blame b s v T hb ih
theorem ChainS.fr0 (h : ChainS w ad k v ws T) (hf : Fr [] w w') : ChainS w' ad k v ws T := by
  induction h with
  | sent => exact .sent
  | blame b s v ws T hb _ ih => exact .blame b s v ws T (hb.fr0 hf) ih
/-- the error of one leaf -/
def HC (w : World) (ad : Nat → Addr) (v : Value) (c : Ch) : Prop := 1 ≤ c.2 ∧ c.2 ≤ 18 ∧ ∃ T, ChainS w ad c.2 v c.1 T
theorem HC.fr0 {c : Ch} (h : HC w ad v c) (hf : Fr [] w w') : HC w' ad v c := ⟨h.1, h.2.1, h.2.2.elim fun T hT => ⟨T, hT.fr0 hf⟩⟩
theorem HC.form {c : Ch} (h : HC w ad v c) : (∃ b, v = bv b) ∨ ∃ a, v = sv a := by
  obtain ⟨-, -, T, hT⟩ := h
  generalize c.1 = ws at hT
  cases hT with
  | sent => exact .inr ⟨_, rfl⟩
  | blame b => exact .inl ⟨b, rfl⟩
/-- several, in a row of their own -/
def HS (w : World) (ad : Nat → Addr) (g : Nat) (cs : List Ch) : Prop :=
  ∃ gr cap vs, Blk w g 119 #[.slice (some ⟨gr, 0, none⟩) cs.length cap] ∧ w.ownsRow 0 26 1 (.slice (some ⟨gr, 0, none⟩) cs.length cap) cs.length vs ∧ vs.length = cs.length ∧ ∀ (i : Nat) v c, vs[i]? = some v → cs[i]? = some c → HC w ad v c
theorem HS.fr0 {g : Nat} {cs : List Ch} (h : HS w ad g cs) (hf : Fr [] w w') : HS w' ad g cs := by
  obtain ⟨gr, cap, vs, h1, h2, h3, h4⟩ := h
  exact ⟨gr, cap, vs, h1.fr0 hf, row_fr h2 hf (by simp), h3, fun i v c hv hc => (h4 i v c hv hc).fr0 hf⟩
/-- an error and its leaves -/
def EV (w : World) (ad : Nat → Addr) (v : Value) (cs : List Ch) : Prop := (v = .nilIface ∧ cs = []) ∨ (∃ c, cs = [c] ∧ HC w ad v c) ∨ (2 ≤ cs.length ∧ ∃ g, v = se g ∧ HS w ad g cs)
theorem EV.fr0 {cs : List Ch} (h : EV w ad v cs) (hf : Fr [] w w') : EV w' ad v cs := by
  rcases h with h | ⟨c, h1, h2⟩ | ⟨h1, g, h2, h3⟩
  · exact .inl h
  · exact .inr (.inl ⟨c, h1, h2.fr0 hf⟩)
  · exact .inr (.inr ⟨h1, g, h2, h3.fr0 hf⟩)
end
/-! ### slices.Clone of errors; Several.Unwrap -/
theorem infoErr : (Tryd.prog.info? 26).map (fun i => (i.zero, i.size, i.bytes)) = some (some .nilIface, 1, 16) := by kernel_rfl
theorem row_newsE {w : World} {B : Nat} {e : TypeId} {n cap g : Nat} {xs : List Value} (h : w.ownsRow B e 1 (.slice (some ⟨g, 0, none⟩) n cap) n xs) : ∀ j v, xs[j]? = some v → w.cell? ((⟨g, 0, none⟩ : Addr).add j) = some v := by
  intro j v hv
  have hadd : (⟨g, 0, none⟩ : Addr).add j = ⟨g, j, none⟩ := by unfold Addr.add; split <;> simp_all
  rw [hadd]
  exact row_cell h hv
theorem EV.one {w : World} {ad : Nat → Addr} {v : Value} {cs : List Ch} (h : EV w ad v cs) : v.oneCell' = true := by
  rcases h with ⟨rfl, -⟩ | ⟨c, -, h⟩ | ⟨-, g, rfl, -⟩
  · rfl
  · rcases h.form with ⟨b, rfl⟩ | ⟨a, rfl⟩
    · rfl
    · rfl
  · rfl
theorem HC.ev {w : World} {ad : Nat → Addr} {v : Value} {c : Ch} (h : HC w ad v c) : EV w ad v [c] := .inr (.inl ⟨c, rfl, h⟩)
theorem sl_nil (a : Addr) (n c : Nat) (W : World) : (binOp .eql 86 (.slice (some a) n c) (.slice none 0 0)).run Tryd.prog W = .ok (.bool false) W := by kernel_rfl
set_option maxRecDepth 100000 in
set_option maxHeartbeats 1000000 in
theorem clone_errs {B : Nat} {w : World} {g n cap : Nat} {vs : List Value} (h : w.ownsRow B 26 1 (.slice (some ⟨g, 0, none⟩) n cap) n vs) (hn : 0 < n) (hl : n ≤ 1000000) (h1 : ∀ v ∈ vs, v.oneCell' = true) :
    Calls Tryd.prog 54 #[.slice (some ⟨g, 0, none⟩) n cap] w fun e w' => ∃ g' c', e = .returned (.slice (some ⟨g', 0, none⟩) n c') ∧ w'.ownsRow w.heap.size 26 1 (.slice (some ⟨g', 0, none⟩) n c') n vs ∧ Fr [] w w' := by
  obtain ⟨i0, hi0, hz0, hs0, hb0⟩ := info_parts infoErr
  have hlen : vs.length = n := by have := row_len h; omega
  have e0 := hide (row_mk (Blk.new w 26 #[]) (Nat.le_refl _) (Nat.le_refl _) (by simp [maxLen]) rfl rfl : (w.alloc (.cells #[] 26)).ownsRow w.heap.size 26 1 (.slice (some ⟨w.heap.size, 0, none⟩) 0 0) 0 [])
  have hN := hide (row_newsE (row_fr h ((Fr.refl [] w).alloc (.cells #[] 26)) (by simp)))
  have H1 := hide h1
  have HL := hide hlen
  clear h h1 hlen
  have nn : ∀ W, (binOp .eql 86 (.slice (some ⟨g, 0, none⟩) n cap) (.slice none 0 0)).run Tryd.prog W = .ok (.bool false) W := fun W => sl_nil _ _ _ W
  go_enter Tryd.func54, Tryd.ntmps54
  go_wp2_with (at_builtin; refine wpList_append_lies _ rfl _ _ _ rfl w.heap.size 26 i0 _ 1 16 Tryd.underlying86 hi0 hz0 hs0 hb0 rfl (by omega) (.slice (some ⟨w.heap.size, 0, none⟩) 0 0) (0) ([]) rfl (e0.out) (⟨g, 0, none⟩) (n) (cap) (vs) rfl (by have := HL.out; omega) (hN.out) (H1.out) (by omega) (by unfold maxLen; omega) (by omega) (by first | omega | (simp; done) | (simp; omega)) (w.heap.size + 1) (by simp) ?_; intro ag0 ac0 aw0 aown0 agrow0 aat0 alt0)
  go_ret
  simp only [Nat.zero_add, List.nil_append] at aown0 ⊢
  exact ⟨_, _, rfl, aown0, ((Fr.refl [] w).alloc _).grown agrow0 (fun k hk => .inr (by simp [Value.ownBlock] at hk; omega))⟩
set_option maxRecDepth 100000 in
theorem sunwrap_calls {w0 w : World} {ad : Nat → Addr} {g : Nat} {cs : List Ch} (h : HS w0 ad g cs) (hf : Fr [] w0 w) (hn : 0 < cs.length) (hl : cs.length ≤ 1000000) :
    Calls Tryd.prog 44 #[.pointer (some ⟨g, 0, none⟩)] w fun e w' => ∃ g' c' vs, e = .returned (.slice (some ⟨g', 0, none⟩) cs.length c') ∧ w'.ownsRow w.heap.size 26 1 (.slice (some ⟨g', 0, none⟩) cs.length c') cs.length vs ∧ vs.length = cs.length ∧ (∀ (i : Nat) v c, vs[i]? = some v → cs[i]? = some c → HC w0 ad v c) ∧ Fr [] w w' := by
  obtain ⟨gr, cap, vs, h1', h2', h3, h4⟩ := h
  have h1 := h1'.fr0 hf
  have h2 := row_fr h2' hf (by simp)
  have h5 : ∀ v ∈ vs, v.oneCell' = true := by
    intro v hv
    obtain ⟨i, hi⟩ := List.getElem?_of_mem hv
    have hlt := (List.getElem?_eq_some_iff.1 hi).1
    exact (h4 i v cs[i] hi (List.getElem?_eq_getElem (by omega))).ev.one
  have HC_ := hide (clone_errs h2 hn hl h5)
  have c0 := h1.at_ 0 (v := .slice (some ⟨gr, 0, none⟩) cs.length cap) rfl
  have H3 := hide h3
  have H4 := hide h4
  clear h1 h2 h3 h4 h5 h1' h2'
  go_enter Tryd.func44, Tryd.ntmps44
  go_wp2_with fail
  refine HC_.out.mono ?_
  rintro e w' ⟨g', c', rfl, hr, hf⟩
  have HR := hide (And.intro hr hf)
  clear hr hf
  go_wp2_with fail
  go_ret
  exact ⟨_, _, vs, rfl, HR.out.1, H3.out, H4.out, HR.out.2⟩
end Go.Proofs.YtnncbmbepdkfnaaDoor

/- Undo entries: what they say, where their parts lie; slices.Clone at []api.Part. -/
import Derived.Test.YtioeafjlbdpjoaaDoorPartEq
import Derived.Test.YtioeafjlbdpjoaaDoorRowO
import Derived.Test.YtioeafjlbdpjoaaDoorFrame
namespace Go.Proofs.YtioeafjlbdpjoaaDoor
open Go.RowKit
def encB (p : Pt) : List Value := [.int .i64 p.c, .int .i64 p.v0, .int .i64 p.v1, .int .i64 p.v2, .int .i64 p.v3, .int .i64 p.t]
theorem encB_len (p : Pt) : (encB p).length = 6 := rfl
/-- what an entry says -/
structure Un where
  kind : Int
  id : Int
  p : Pt
  ps : List Pt
  n : Int
  old : Int
  deriving DecidableEq
/-- an entry and where its parts lie -/
structure Ud where
  u : Un
  A : Option Addr
  c : Nat
def Ud.sl (d : Ud) : Value := .slice d.A d.u.ps.length d.c
def Ud.cells (d : Ud) : List Value := [.int .i64 d.u.kind, .int .i64 d.u.id, .int .i64 d.u.p.c, .int .i64 d.u.p.v0, .int .i64 d.u.p.v1, .int .i64 d.u.p.v2, .int .i64 d.u.p.v3, .int .i64 d.u.p.t, .slice d.A d.u.ps.length d.c, .int .i64 d.u.n, .int .i64 d.u.old]
def Ud.box (d : Ud) : Array Value := #[.int .i64 d.u.kind, .int .i64 d.u.id, .int .i64 d.u.p.c, .int .i64 d.u.p.v0, .int .i64 d.u.p.v1, .int .i64 d.u.p.v2, .int .i64 d.u.p.v3, .int .i64 d.u.p.t, .slice d.A d.u.ps.length d.c, .int .i64 d.u.n, .int .i64 d.u.old]
def Ud.val (d : Ud) : Value := .agg #[.int .i64 d.u.kind, .int .i64 d.u.id, .int .i64 d.u.p.c, .int .i64 d.u.p.v0, .int .i64 d.u.p.v1, .int .i64 d.u.p.v2, .int .i64 d.u.p.v3, .int .i64 d.u.p.t, .slice d.A d.u.ps.length d.c, .int .i64 d.u.n, .int .i64 d.u.old]
theorem Ud.cells_len (d : Ud) : d.cells.length = 11 := rfl
/-- its parts can be read, in a block that is good -/
structure PsOk (good : Nat → Prop) (w : World) (d : Ud) : Prop where
  le : d.u.ps.length ≤ 1000
  nil : d.A = none → d.u.ps = [] ∧ d.c = 0
  at_ : d.u.ps ≠ [] → ∃ b off, d.A = some ⟨b, off, none⟩ ∧ b < w.heap.size ∧ good b ∧ ∀ j v, (d.u.ps.flatMap encB)[j]? = some v → w.cell? ⟨b, off + j, none⟩ = some v
section
variable {w w' : World} {S : List Nat} {good good' : Nat → Prop} {d : Ud}
theorem PsOk.keep (h : PsOk good w d) (hf : Fr S w w') (hS : ∀ b, good b → b ∉ S) : PsOk good w' d :=
  ⟨h.le, h.nil, fun hn => by
    obtain ⟨b, off, hA, hb, hg, hc⟩ := h.at_ hn
    exact ⟨b, off, hA, Nat.lt_of_lt_of_le hb hf.size, hg, fun j v hv => (hf.cell (p := ⟨b, off + j, none⟩) hb (hS b hg)).trans (hc j v hv)⟩⟩
theorem PsOk.fr0 (h : PsOk good w d) (hf : Fr [] w w') : PsOk good w' d := h.keep hf (by simp)
theorem PsOk.imp (h : PsOk good w d) (hg : ∀ b, good b → b < w.heap.size → good' b) : PsOk good' w d :=
  ⟨h.le, h.nil, fun hn => by
    obtain ⟨b, off, hA, hb, hgd, hc⟩ := h.at_ hn
    exact ⟨b, off, hA, hb, hg b hgd hb, hc⟩⟩
/-- the block of its parts -/
def Ud.pb (d : Ud) : List Nat := (d.A.map (·.block)).toList
theorem PsOk.own (h : PsOk good w d) : PsOk (fun b => b ∈ d.pb ∧ good b) w d :=
  ⟨h.le, h.nil, fun hn => by
    obtain ⟨b, off, hA, hb, hgd, hc⟩ := h.at_ hn
    exact ⟨b, off, hA, hb, ⟨by simp [Ud.pb, hA], hgd⟩, hc⟩⟩
theorem PsOk.empty {A : Option Addr} {c : Nat} {u : Un} (hu : u.ps = []) (hA : A = none → c = 0) : PsOk good w ⟨u, A, c⟩ := ⟨by simp [hu], fun h => ⟨hu, hA h⟩, fun h => absurd hu h⟩
end
/-- slices.Clone -/
theorem infoPart : (Tryd.prog.info? 34).map (fun i => (i.zero, i.size, i.bytes)) = some (some (.agg #[.int .i64 0, .int .i64 0, .int .i64 0, .int .i64 0, .int .i64 0, .int .i64 0]), 6, 48) := by kernel_rfl
theorem encB_one (ps : List Pt) : ∀ u ∈ ps.flatMap encB, u.oneCell' = true := by
  intro u hu
  obtain ⟨p, -, hp⟩ := List.mem_flatMap.mp hu
  simp only [encB, List.mem_cons, List.not_mem_nil, or_false] at hp
  rcases hp with rfl | rfl | rfl | rfl | rfl | rfl <;> rfl
/-- what Clone gives -/
def ClPost (w : World) (u : Un) (w' : World) (v : Value) : Prop := ∃ d' : Ud, d'.u = u ∧ v = .slice d'.A u.ps.length d'.c ∧ PsOk (fun b => w.heap.size ≤ b) w' d' ∧ ∀ b ∈ d'.pb, w.heap.size ≤ b ∧ b < w'.heap.size ∧ ∃ cs, Blk w' b 34 cs
theorem eqNil (a : Addr) (n c : Nat) (W : World) : (binOp .eql 35 (.slice (some a) n c) (.slice none 0 0)).run Tryd.prog W = .ok (.bool false) W := by kernel_rfl
theorem eqNil0 (W : World) : (binOp .eql 35 (.slice none 0 0) (.slice none 0 0)).run Tryd.prog W = .ok (.bool true) W := by kernel_rfl
set_option maxRecDepth 100000 in
set_option maxHeartbeats 1000000 in
theorem clone_calls {w : World} {good : Nat → Prop} {d : Ud} (h : PsOk good w d) :
    Calls Tryd.prog 33 #[.slice d.A d.u.ps.length d.c] w fun e w' => ∃ v, e = .returned v ∧ ClPost w d.u w' v ∧ Fr [] w w' := by
  obtain ⟨i9, hi9, hz9, hs9, hb9⟩ := info_parts infoPart
  obtain ⟨u, A, c⟩ := d
  dsimp only
  cases A with
  | none =>
    obtain ⟨h1, h2⟩ := h.nil rfl
    dsimp only at h1 h2
    subst h2
    have e0 := eqNil0
    have Hu := hide h1
    rw [h1, List.length_nil]
    clear h h1
    go_enter Tryd.func33, Tryd.ntmps33
    go_wp2_with fail
    go_ret
    exact ⟨_, rfl, ⟨⟨u, none, 0⟩, rfl, by rw [Hu.out]; rfl, PsOk.empty Hu.out fun _ => rfl, by simp [Ud.pb]⟩, Fr.refl _ _⟩
  | some a =>
    have e1 := eqNil a u.ps.length c
    have H := hide h
    by_cases hn : u.ps = []
    · have Hn := hide hn
      rw [hn, List.length_nil]
      rw [hn, List.length_nil] at e1
      clear h hn
      go_enter Tryd.func33, Tryd.ntmps33
      go_wp2_with fail
      go_ret
      exact ⟨_, rfl, ⟨⟨u, some ⟨w.heap.size, 0, none⟩, 0⟩, rfl, by rw [Hn.out]; rfl, PsOk.empty Hn.out (fun e => by cases e), by simp [Ud.pb]; exact ⟨_, Blk.new w 34 #[]⟩⟩, (Fr.refl _ _).alloc _⟩
    · have hlt : 0 < u.ps.length := List.length_pos_iff.2 hn
      obtain ⟨b, off, hA, hb, -, hc⟩ := h.at_ hn
      obtain rfl := Option.some.inj hA
      have hle := h.le
      dsimp only at hle
      have Hc := hide hc
      have Hn := hide hn
      clear h hA hc hn
      go_enter Tryd.func33, Tryd.ntmps33
      have hrow : (w.alloc (.cells #[] 34)).ownsRow w.heap.size 34 6 (.slice (some ⟨w.heap.size, 0, none⟩) 0 0) 0 [] := row_mk (Blk.new w 34 #[]) (Nat.le_refl _) (Nat.le_refl _) (by simp [maxLen]) rfl rfl
      have hnews : ∀ j v, (u.ps.flatMap encB)[j]? = some v → (w.alloc (.cells #[] 34)).cell? ((⟨b, off, none⟩ : Addr).add j) = some v := fun j v hv => by
        rw [add_addr]
        exact (((Fr.refl [] w).alloc _).cell (p := ⟨b, off + j, none⟩) hb (by simp)).trans (Hc.out j v hv)
      have Hq := hide (And.intro hrow hnews)
      clear hrow hnews
      go_wp2_with (at_builtin; refine wpList_append_lies _ rfl _ _ _ rfl w.heap.size 34 i9 _ 6 48 Tryd.underlying35 hi9 hz9 hs9 hb9 rfl (by omega) (.slice (some ⟨w.heap.size, 0, none⟩) 0 0) (0) ([]) rfl (Hq.out.1) (⟨b, off, none⟩) (u.ps.length) (c) (u.ps.flatMap encB) rfl (flat_len encB_len u.ps) (Hq.out.2) (encB_one _) (by omega) (by unfold maxLen; omega) (by omega) (by first | omega | (simp; done) | (simp; omega)) (w.heap.size + 1) (by simp) ?_; intro ag9 ac9 aw9 aown9 agrow9 aat9 alt9)
      go_ret
      have hge : w.heap.size ≤ ag9 := by
        rcases aat9 with e | e
        · simp [Value.ownBlock] at e; omega
        · omega
      refine ⟨_, rfl, ⟨⟨u, some ⟨ag9, 0, none⟩, ac9⟩, rfl, by simp, ⟨hle, (fun e => by cases e), fun _ => ⟨ag9, 0, rfl, alt9, hge, fun j v hv => ?_⟩⟩, by
        obtain ⟨cur9, hc9, _⟩ := row_blk aown9
        intro b hb
        have hb2 : b = ag9 := by simpa [Ud.pb, eq_comm] using hb
        subst hb2
        exact ⟨hge, alt9, _, hc9⟩⟩, ((Fr.refl [] w).alloc (.cells #[] 34)).grown agrow9 ?_⟩
      · rw [Nat.zero_add]
        rw [List.nil_append] at aown9
        exact row_cell aown9 hv
      · intro k hk
        right
        simp [Value.ownBlock] at hk
        omega
end Go.Proofs.YtioeafjlbdpjoaaDoor

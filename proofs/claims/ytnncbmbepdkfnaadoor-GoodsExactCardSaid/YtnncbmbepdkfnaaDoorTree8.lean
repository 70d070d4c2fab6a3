/- blame.walk of one leaf. -/
import Derived.Test.YtnncbmbepdkfnaaDoorTree7
import Derived.Test.YtnncbmbepdkfnaaDoorOpen
import Derived.Deep.DeepCutAuto
namespace Go.Proofs.YtnncbmbepdkfnaaDoor
open Go.RowKit Go.Extern.Stop Go.Stop Go.Extern
theorem isB (v : Value) (w : World) : (Instr.typeAssert (.iface 104 v) 26 104 true).run Tryd.prog w = .ok (.tuple #[v, .bool true]) w := by kernel_rfl
theorem notBE (v : Value) (w : World) : (Instr.typeAssert (.iface 152 v) 26 104 true).run Tryd.prog w = .ok (.tuple #[.pointer none, .bool false]) w := by kernel_rfl
theorem notBS (v : Value) (w : World) : (Instr.typeAssert (.iface 108 v) 26 104 true).run Tryd.prog w = .ok (.tuple #[.pointer none, .bool false]) w := by kernel_rfl
abbrev Lf := ByteArray × Nat
def encL (x : Lf) : List Value := [.string x.1, .int .i64 x.2]
theorem encL_len : ∀ x, (encL x).length = 2 := fun _ => rfl
def plen (ws : List ByteArray) : Nat := (Lib.join (ws.map (·.data.toList)) [47]).length
def leafOf (way : List ByteArray) (c : Ch) : Lf := (joinB (way ++ c.1), c.2)
def WalkPost (w : World) (ls : List Lf) (e : Ending) (w' : World) : Prop := ∃ v', e = .returned v' ∧ w'.ownsRow w.heap.size 110 2 v' ls.length (ls.flatMap encL) ∧ Fr [] w w'
set_option maxRecDepth 100000 in
set_option maxHeartbeats 2000000 in
theorem walk_sent {B : Nat} {w : World} {ad : Nat → Addr} (hs : Sents All18 B w ad) {k : Nat} (h1 : 1 ≤ k) (h2 : k ≤ 18) {vw : Value} {way : List ByteArray} (hw : WR w vw way) (hl : way.length ≤ 1000) (hp : plen way ≤ 1000000) :
    Calls Tryd.prog 32 #[vw, sv (ad k)] w (WalkPost w [(joinB way, k)]) := by
  have nE := notBE
  have nS := notSevE
  have n0 := eql_nil_false
  have HJ := hide (join_calls hw.1 (by omega) (by unfold plen at hp; omega))
  have hev : EV w ad (sv (ad k)) [([], k)] := .inr (.inl ⟨_, rfl, h1, h2, [], .sent⟩)
  have HN := hide (fun W (hf : Fr [] w W) => number_ev (hs.fr0 hf) (hev.fr0 hf) (by simp) (k := k) (.inr ⟨by simp, h1, h2, by simp⟩))
  clear hs hw hev
  go_enter Tryd.func32, Tryd.ntmps32
  go_wp2_with fail
  refine HJ.out.mono ?_
  rintro e w1 ⟨rfl, hf⟩
  have Hf := hide hf
  clear hf
  go_wp2_with fail
  refine (HN.out _ Hf.out).mono ?_
  rintro e w2 ⟨rfl, hf⟩
  have Hf2 := hide (Hf.out.trans hf)
  clear hf
  go_wp2_with fail
  go_ret
  have hsz := Hf2.out.size
  exact ⟨_, rfl, row_mk (Blk.new _ _ _) hsz (Nat.le_refl _) (by simp [maxLen]) rfl rfl, Hf2.out.alloc _⟩
set_option maxRecDepth 100000 in
set_option maxHeartbeats 4000000 in
theorem walk_blame {w : World} {b : Nat} {s : ByteArray} {t : TypeId} {a : Addr} (hb : Blk w b 107 #[.string s, .iface t (.pointer (some a))]) {vw : Value} {way : List ByteArray} (hw : WR w vw way) (hway : way.length ≤ 1000) {ls : List Lf}
    (ih : ∀ W, Fr [] w W → ∀ vw', WR W vw' (way ++ [s]) → Calls Tryd.prog 32 #[vw', .iface t (.pointer (some a))] W (WalkPost W ls)) :
    Calls Tryd.prog 32 #[vw, bv b] w (WalkPost w ls) := by
  have IH := hide ih
  have HC_ := hide (fun W (hf : Fr [] w W) => clone_strs (hw.fr0 hf) (by omega))
  have HU := hide (fun W (hf : Fr [] w W) => unwrap_calls b s _ W (hb.fr0 hf))
  have HB := hide hb
  have hB := isB
  have n0 := eql_nil_false
  obtain ⟨i0, hi0, hz0, hs0, hb0⟩ := info_parts infoStr
  have HL_ : Hid ((way.map Value.string).length = way.length) := hide (List.length_map _)
  have c0 := hb.at_ 0 (v := .string s) rfl
  have lb := hb.lt
  clear ih hw hb
  go_enter Tryd.func32, Tryd.ntmps32
  go_wp2_with fail
  go_region_law (first
    | (refine step_open (by rfl) ?_; go_wp2_with fail; go_at_call 42; refine (HC_.out (w.drew.alloc (.cells #[.string s] 9)) (by (repeat (first | exact Fr.refl _ _ | apply Fr.drew | apply Fr.drewN | apply Fr.alloc | (refine Fr.setCell ?_ (by first | (left; simp [Value.ownBlock]; done) | (right; simp; omega) | (right; simp; done)) _))))).mono ?_; rintro e w1 ⟨v1, rfl, hr1, hf1⟩; have hfw := (show Fr [] w _ by (repeat (first | exact Fr.refl _ _ | apply Fr.drew | apply Fr.drewN | apply Fr.alloc | (refine Fr.setCell ?_ (by first | (left; simp [Value.ownBlock]; done) | (right; simp; omega) | (right; simp; done)) _)))).trans hf1; have hblk : Blk w1 w.heap.size 9 #[.string s] := (Blk.new w.drew 9 #[.string s]).fr0 hf1; have tokB : True := trivial; have d0 := (HB.out.fr0 hfw).at_ 0 (v := .string s) rfl; have ld := (HB.out.fr0 hfw).lt; have H1 := hide (And.intro hr1 (And.intro hf1 hfw)); clear hr1 hf1 hfw; go_wp2_with fail)
    | (refine step_open (by rfl) ?_; go_wp2_with fail; go_at_call 42; refine (HC_.out w.drew (by (repeat (first | exact Fr.refl _ _ | apply Fr.drew | apply Fr.drewN | apply Fr.alloc | (refine Fr.setCell ?_ (by first | (left; simp [Value.ownBlock]; done) | (right; simp; omega) | (right; simp; done)) _))))).mono ?_; rintro e w1 ⟨v1, rfl, hr1, hf1⟩; have hfw := (show Fr [] w _ by (repeat (first | exact Fr.refl _ _ | apply Fr.drew | apply Fr.drewN | apply Fr.alloc | (refine Fr.setCell ?_ (by first | (left; simp [Value.ownBlock]; done) | (right; simp; omega) | (right; simp; done)) _)))).trans hf1; have tokA : True := trivial; have d0 := (HB.out.fr0 hfw).at_ 0 (v := .string s) rfl; have ld := (HB.out.fr0 hfw).lt; have H1 := hide (And.intro hr1 (And.intro hf1 hfw)); clear hr1 hf1 hfw; go_wp2_with fail)
    | (have _ := tokA; (refine step_append_lies _ (by rfl) _ _ _ (by rfl) 0 9 i0 _ 1 16 Tryd.underlying103 hi0 hz0 hs0 hb0 rfl (by omega) v1 way.length (way.map Value.string) (by rfl) (row_base (H1.out.1.alloc _) (Nat.zero_le _)) ⟨w1.heap.size, 0, none⟩ 1 1 [.string s] (by rfl) (by rfl) (World.news_of_block (cs := #[.string s]) (t := 9) (fr := (0, 0)) (Blk.new _ _ _)) (by simp [Value.oneCell']) (by omega) (by unfold maxLen; omega) (by omega) (Nat.zero_le _) (w1.heap.size + 1) (by simp) ?_; intro ag ac aw aown agrow aat alt; have hfa : Fr [] w aw := (show Fr [] w _ by first | exact H1.out.2.2 | exact H1.out.2.2.alloc _).grown agrow (fun k hk => .inr (by have := (row_lt H1.out.1 hk).2; simp at this; omega)); have hWR : WR aw (.slice (some ⟨ag, 0, none⟩) (way.length + 1) ac) (way ++ [s]) := ⟨by simpa using aown, fun h => by simp at h⟩; have H2 := hide (And.intro hWR hfa); clear aown agrow aat hfa hWR H1))
    | (have _ := tokB; (refine step_append_lies _ (by rfl) _ _ _ (by rfl) 0 9 i0 _ 1 16 Tryd.underlying103 hi0 hz0 hs0 hb0 rfl (by omega) v1 way.length (way.map Value.string) (by rfl) (row_base H1.out.1 (Nat.zero_le _)) ⟨w.heap.size, 0, none⟩ 1 1 [.string s] (by rfl) (by rfl) (World.news_of_block (cs := #[.string s]) (t := 9) (fr := (0, 0)) hblk) (by simp [Value.oneCell']) (by omega) (by unfold maxLen; omega) (by omega) (Nat.zero_le _) (w1.heap.size) (by simp) ?_; intro ag ac aw aown agrow aat alt; have hfa : Fr [] w aw := (show Fr [] w _ by first | exact H1.out.2.2 | exact H1.out.2.2.alloc _).grown agrow (fun k hk => .inr (by have := (row_lt H1.out.1 hk).2; simp at this; omega)); have hWR : WR aw (.slice (some ⟨ag, 0, none⟩) (way.length + 1) ac) (way ++ [s]) := ⟨by simpa using aown, fun h => by simp at h⟩; have H2 := hide (And.intro hWR hfa); clear aown agrow aat hfa hWR H1))
    | (refine step_open (by rfl) ?_; go_wp2_with fail; go_at_call 43; refine (HU.out _ H2.out.2).mono ?_; rintro e w' ⟨rfl, rfl⟩; go_wp2_with fail)
    | (refine step_open (by rfl) ?_; go_wp2_with fail; go_at_call 32; refine (IH.out _ H2.out.2 _ H2.out.1).mono ?_; rintro e w3 ⟨v3, rfl, hr3, hf3⟩; have H3 := hide (And.intro hr3 (And.intro (H2.out.2.trans hf3) (H2.out.2.size))); clear hr3 hf3; go_wp2_with fail))
  all_goals
    go_wp2
    go_ret
    refine ⟨_, rfl, row_base H3.out.1 H3.out.2.2, H3.out.2.1⟩
theorem walk_chain {B : Nat} {ad : Nat → Addr} {k : Nat} (h1 : 1 ≤ k) (h2 : k ≤ 18) : ∀ (T : List Nat) {w : World} (_ : Sents All18 B w ad) {v : Value} {ws : List ByteArray} (_ : ChainS w ad k v ws T) {vw : Value} {way : List ByteArray} (_ : WR w vw way) (_ : way.length + ws.length ≤ 1000) (_ : plen (way ++ ws) ≤ 1000000),
    Calls Tryd.prog 32 #[vw, v] w (WalkPost w [leafOf way (ws, k)])
  | T, w, hs, v, ws, hc, vw, way, hw, hl, hp => by
    cases hc with
    | sent =>
      rw [List.append_nil] at hp
      unfold leafOf
      rw [List.append_nil]
      exact walk_sent hs h1 h2 hw (by simpa using hl) hp
    | blame b s v ws T hb hc =>
      obtain ⟨t, a, rfl⟩ := hc.chain.form
      refine walk_blame hb hw (by omega) fun W hf vw' hw' => ?_
      have := walk_chain h1 h2 T (hs.fr0 hf) (hc.fr0 hf) hw' (by simp at hl ⊢; omega) (by simpa using hp)
      have e : leafOf (way ++ [s]) (ws, k) = leafOf way (s :: ws, k) := by simp [leafOf]
      rw [e] at this
      exact this
end Go.Proofs.YtnncbmbepdkfnaaDoor

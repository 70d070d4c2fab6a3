/- strings.Join; slices.Clone of texts; blame.walk, blame.Leaves of errors with their leaves. -/
import Derived.Test.YtnncbmbepdkfnaaDoorTree6
import Derived.Test.YtnncbmbepdkfnaaDoorShelf
import Derived.Deep.RegionLaw
namespace Go.Proofs.YtnncbmbepdkfnaaDoor
open Go.RowKit Go.Extern.Stop Go.Stop Go.Extern
theorem extraB : Builder.Extra Tryd.prog Tryd.lNm_156_ren where
  sizeBuilder := by kernel_rfl
  liesBuilder := by kernel_rfl
  t5 := Tryd.underlying5
  a5 := Tryd.isAgg5
  z5 := Tryd.sizeOf5
  v5 := Tryd.zeroValue5
  infoByte := by kernel_rfl
  cellsByte := by kernel_rfl
  sizeByte := by kernel_rfl
  neB5 := by decide
def joinB (ws : List ByteArray) : ByteArray := ⟨(Lib.join (ws.map (·.data.toList)) [47]).toArray⟩
theorem join_calls {B : Nat} {w : World} {v : Value} {ws : List ByteArray} (h : w.ownsRow B 9 1 v ws.length (ws.map Value.string)) (hl : ws.length ≤ 1000000) (hlen : (Lib.join (ws.map (·.data.toList)) [47]).length ≤ 140737488355328) :
    Calls Tryd.prog 45 #[v, .string ⟨#[47]⟩] w fun e w' => e = .returned (.string (joinB ws)) ∧ Fr [] w w' := by
  rcases row_form h with ⟨rfl, h0, -⟩ | ⟨g, cap, rfl, -, hlg, hnc, -⟩
  · obtain rfl : ws = [] := List.eq_nil_of_length_eq_zero h0
    refine (Any.strings_Join_none Tryd.lNm_156 extraB none 0 ⟨#[47]⟩ w).mono ?_
    rintro e w' ⟨rfl, rfl⟩
    exact ⟨rfl, Fr.refl _ _⟩
  · refine (Any.strings_Join Tryd.lNm_156 extraB g 0 cap ws ⟨#[47]⟩ w (fun j x hx => by rw [Nat.zero_add]; exact row_cell h (by rw [List.getElem?_map, hx]; rfl)) hlg (by omega) hnc hlen).mono ?_
    rintro e w' ⟨rfl, hb⟩
    exact ⟨rfl, Fr.of_below hb []⟩
/-- a way: nil, or a row of texts -/
def WR (w : World) (v : Value) (way : List ByteArray) : Prop := w.ownsRow 0 9 1 v way.length (way.map Value.string) ∧ (way = [] → v = .slice none 0 0)
theorem WR.fr0 {w w' : World} {v : Value} {way : List ByteArray} (h : WR w v way) (hf : Fr [] w w') : WR w' v way := ⟨row_fr h.1 hf (by simp), h.2⟩
theorem infoStr : (Tryd.prog.info? 9).map (fun i => (i.zero, i.size, i.bytes)) = some (some (.string ⟨#[]⟩), 1, 16) := by kernel_rfl
theorem sl_nilS (a : Addr) (n c : Nat) (W : World) : (binOp .eql 103 (.slice (some a) n c) (.slice none 0 0)).run Tryd.prog W = .ok (.bool false) W := by kernel_rfl
theorem sl_nilS0 (W : World) : (binOp .eql 103 (.slice none 0 0) (.slice none 0 0)).run Tryd.prog W = .ok (.bool true) W := by kernel_rfl
theorem strs_one (way : List ByteArray) : ∀ v ∈ way.map Value.string, v.oneCell' = true := by
  intro v hv
  obtain ⟨x, -, rfl⟩ := List.mem_map.mp hv
  rfl
set_option maxRecDepth 100000 in
set_option maxHeartbeats 1000000 in
theorem clone_strs {w : World} {v : Value} {way : List ByteArray} (h : WR w v way) (hl : way.length ≤ 1000000) :
    Calls Tryd.prog 42 #[v] w fun e w' => ∃ v', e = .returned v' ∧ w'.ownsRow w.heap.size 9 1 v' way.length (way.map Value.string) ∧ Fr [] w w' := by
  obtain ⟨i0, hi0, hz0, hs0, hb0⟩ := info_parts infoStr
  rcases row_form h.1 with ⟨rfl, h0, -⟩ | ⟨g, cap, rfl, -, hlg, hnc, -⟩
  · have hn := sl_nilS0
    obtain rfl : way = [] := List.eq_nil_of_length_eq_zero h0
    clear h h0
    go_enter Tryd.func42, Tryd.ntmps42
    go_wp2_with fail
    go_ret
    exact ⟨_, rfl, World.ownsRow_nil _ _ _ _, Fr.refl _ _⟩
  · have hn : 0 < way.length := by
      rcases Nat.eq_zero_or_pos way.length with h0 | h0
      · have := h.2 (List.eq_nil_of_length_eq_zero h0); cases this
      · exact h0
    have nn := sl_nilS ⟨g, 0, none⟩ way.length cap
    have e0 := hide (row_mk (Blk.new w 9 #[]) (Nat.le_refl _) (Nat.le_refl _) (by simp [maxLen]) rfl rfl : (w.alloc (.cells #[] 9)).ownsRow w.heap.size 9 1 (.slice (some ⟨w.heap.size, 0, none⟩) 0 0) 0 [])
    have hN := hide (row_newsE (row_fr h.1 ((Fr.refl [] w).alloc (.cells #[] 9)) (by simp)))
    have H1 := hide (strs_one way)
    have HLn : Hid ((way.map Value.string).length = way.length) := hide (List.length_map _)
    clear h
    go_enter Tryd.func42, Tryd.ntmps42
    go_wp2_with (at_builtin; refine wpList_append_lies _ rfl _ _ _ rfl w.heap.size 9 i0 _ 1 16 Tryd.underlying103 hi0 hz0 hs0 hb0 rfl (by omega) (.slice (some ⟨w.heap.size, 0, none⟩) 0 0) (0) ([]) rfl (e0.out) (⟨g, 0, none⟩) (way.length) (cap) (way.map Value.string) rfl (by have := HLn.out; omega) (hN.out) (H1.out) (by omega) (by unfold maxLen; omega) (by omega) (by first | omega | (simp; done) | (simp; omega)) (w.heap.size + 1) (by simp) ?_; intro ag0 ac0 aw0 aown0 agrow0 aat0 alt0)
    go_ret
    simp only [Nat.zero_add, List.nil_append] at aown0 ⊢
    exact ⟨_, rfl, aown0, ((Fr.refl [] w).alloc _).grown agrow0 (fun k hk => .inr (by simp [Value.ownBlock] at hk; omega))⟩
end Go.Proofs.YtnncbmbepdkfnaaDoor

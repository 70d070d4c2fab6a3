/- blame.flat, blame.All of rows of Blames. -/
import Derived.Test.YthjakngpegdhmaaDoorErr
namespace Go.Proofs.YthjakngpegdhmaaDoor
open Go.RowKit

theorem infoErr : (Tryd.prog.info? 39).map (fun i => (i.zero, i.size, i.bytes)) = some (some .nilIface, 1, 16) := by kernel_rfl
/-- the address of a Blame -/
abbrev bv (b : Nat) : Value := .iface 84 (.pointer (some ⟨b, 0, none⟩))
abbrev bvs (bs : List Nat) : List Value := bs.map bv
theorem notSev (v : Value) (w : World) : (Instr.typeAssert (.iface 84 v) 39 91 true).run Tryd.prog w = .ok (.tuple #[.pointer none, .bool false]) w := by kernel_rfl
set_option maxRecDepth 100000 in
set_option maxHeartbeats 1000000 in
theorem flat_calls {B : Nat} {w : World} {v : Value} {bs : List Nat} (hv : w.ownsRow B 39 1 v bs.length (bvs bs)) (hl : bs.length ≤ 1000000) :
    Calls Tryd.prog 32 #[v] w fun e w' => ∃ v', e = .returned v' ∧ w'.ownsRow w.heap.size 39 1 v' bs.length (bvs bs) ∧ Fr [] w w' := by
  obtain ⟨i0, hi0, hz0, hs0, hb0⟩ := info_parts infoErr
  have HV := hide hv
  obtain ⟨A, c, rfl⟩ : ∃ A c, v = .slice A bs.length c := by
    rcases row_form hv with ⟨rfl, h0, _⟩ | ⟨g, cap, rfl, _⟩
    · exact ⟨none, 0, by rw [h0]⟩
    · exact ⟨_, _, rfl⟩
  clear hv
  have n0 : (0 : Int) ≤ (bs.length : Int) := by omega
  go_enter Tryd.func32, Tryd.ntmps32
  go_wp2_with fail
  go_loopw [2, 10] (fun s2 s10 wr => ∃ k : Nat, k ≤ bs.length ∧ s10 = .int .i64 k ∧ wr.ownsRow w.heap.size 39 1 s2 k (bvs (bs.take k)) ∧ Fr [] w wr) (fun _ s10 _ => bs.length - (intOf s10).toNat)
  case atStart => exact ⟨0, by omega, rfl, World.ownsRow_nil _ _ _ _, Fr.refl _ _⟩
  case round =>
    obtain ⟨k, hk, rfl, hrow, hf⟩ := hrel
    by_cases hk1 : k < bs.length
    · obtain ⟨b, hbk⟩ : ∃ b, bs[k]? = some b := ⟨_, List.getElem?_eq_getElem hk1⟩
      have hgr : (HV.out.2.elim (fun h => by omega) fun h => trivial : True) = trivial := rfl
      rcases row_form HV.out with ⟨_, h0, _⟩ | ⟨g, cap, e, hBg, hlg, hcap, hmx⟩
      · omega
      · injection e with e1 e2 e3
        subst e1; subst e3
        have k0 := row_cell HV.out (i := k) (u := bv b) (by simp [bvs, hbk])
        have k1 : wr.cell? ⟨g, k, none⟩ = some (bv b) := (hf.cell (p := ⟨g, k, none⟩) hlg (by simp)).trans k0
        have hn := eql_nil_false 84 (.pointer (some ⟨b, 0, none⟩))
        have hT := notSev (.pointer (some ⟨b, 0, none⟩))
        have lg : g < wr.heap.size := Nat.lt_of_lt_of_le hlg hf.size
        have i1 : (0 : Int) ≤ (k : Int) := by omega
        have i2 : (k : Int) < (bs.length : Int) := by omega
        have hsz := hf.size
        have HR := hide (And.intro hrow (And.intro hf hbk))
        clear hrow hf k0 hbk
        go_wp2_with (at_builtin; refine wpList_append_lies _ rfl _ _ _ rfl w.heap.size 39 i0 _ 1 16 Tryd.underlying68 hi0 hz0 hs0 hb0 rfl (by omega) (u2) (k) (bvs (bs.take k)) rfl ((HR.out.1.alloc _)) ⟨wr.heap.size, 0, none⟩ 1 1 [bv b] rfl rfl (World.news_of_block (cs := #[bv b]) (t := 39) (fr := (0, 0)) (Blk.new_at _ _ _ _ (by simp))) (by simp [Value.oneCell']) (by omega) (by unfold maxLen; omega) (by omega) (by simp; omega) (wr.heap.size + 1) (by simp) ?_; intro ag0 ac0 aw0 aown0 agrow0 aat0 alt0)
        have hfin := hide (And.intro aown0 (And.intro agrow0 aat0))
        obtain ⟨hrow, hf, hbk⟩ := HR.out
        have hv0 : ∀ x, u2.ownBlock = some x → w.heap.size ≤ x := fun x hx => (row_lt hrow hx).2
        go_roundw
        case rel =>
          refine ⟨k + 1, by omega, by go_num, ?_, (hf.alloc _).grown hfin.out.2.1 fun x hx => .inr (hv0 x hx)⟩
          have e : bvs (bs.take (k + 1)) = bvs (bs.take k) ++ [bv b] := by rw [List.take_add_one, hbk]; simp [bvs]
          rw [e]
          exact hfin.out.1
        case measure => simp [intOf]; omega
    · have hkn : k = bs.length := by omega
      subst hkn
      rw [List.take_length] at hrow
      have HR := hide (And.intro hrow hf)
      clear hrow hf
      go_wp2_with fail
      go_ret
      exact ⟨_, rfl, HR.out.1, HR.out.2⟩
def AllPost (bs : List Nat) (w : World) (e : Ending) (w' : World) : Prop := ∃ x, e = .returned x ∧ Fr [] w w' ∧ (bs = [] → x = .nilIface) ∧ (∀ b, bs = [b] → x = bv b) ∧ (bs ≠ [] → ∃ t a, x = .iface t (.pointer (some a)))
theorem all_calls {B : Nat} {w : World} {v : Value} {bs : List Nat} (hv : w.ownsRow B 39 1 v bs.length (bvs bs)) (hl : bs.length ≤ 1000000) :
    Calls Tryd.prog 23 #[v] w (AllPost bs w) := by
  have H := hide (flat_calls hv hl)
  clear hv
  go_enter Tryd.func23, Tryd.ntmps23
  go_wp2_with fail
  refine H.out.mono ?_
  rintro e w2 ⟨v', rfl, hr, hf⟩
  obtain ⟨A, c, rfl⟩ : ∃ A c, v' = .slice A bs.length c := by
    rcases row_form hr with ⟨rfl, h0, _⟩ | ⟨g, cap, rfl, _⟩
    · exact ⟨none, 0, by rw [h0]⟩
    · exact ⟨_, _, rfl⟩
  have Hf := hide hf
  rcases bs with _ | ⟨b, _ | ⟨b', bs⟩⟩
  · clear hr hf
    go_wp2_with fail
    go_ret
    exact ⟨_, rfl, Hf.out, fun _ => rfl, (fun b h => by cases h), fun h => (h rfl).elim⟩
  · rcases row_form hr with ⟨_, h0, _⟩ | ⟨g, cap, e, _, hlg, _⟩
    · cases h0
    · injection e with e1 e2 e3
      subst e1; subst e3
      have k0 := row_cell hr (i := 0) (u := bv b) rfl
      clear hr hf
      go_wp2_with fail
      go_ret
      exact ⟨_, rfl, Hf.out, (fun h => by cases h), (fun b' h => by injection h with h; subst h; rfl), fun _ => ⟨_, _, rfl⟩⟩
  · have h2 : (2 : Int) ≤ ((b :: b' :: bs).length : Int) := by simp; omega
    have h2' : ((b :: b' :: bs).length : Int) ≠ 0 := by omega
    have h2'' : ((b :: b' :: bs).length : Int) ≠ 1 := by omega
    generalize (b :: b' :: bs).length = n at *
    clear hr hf
    go_wp2_with fail
    go_ret
    exact ⟨_, rfl, Hf.out.alloc _, (fun h => by cases h), (fun b' h => by cases h), fun _ => ⟨_, _, rfl⟩⟩
end Go.Proofs.YthjakngpegdhmaaDoor

/- slices.Backward of texts: the iterator's contract. -/
import Derived.Test.YtnncbmbepdkfnaaDoorRest
import Derived.RangeFuncNested
import Derived.RangeFuncBound
import Derived.RangeFuncCalls
import Derived.RangeFuncLeaves
import Derived.Shelf.Abstract
import Derived.Shelf.RegionOpen
import Derived.OwnWalkIn
import Derived.TacticsInMore
import Derived.LoopNIn
import Derived.LoopIn
namespace Go.Proofs.YtnncbmbepdkfnaaDoor
open Go.RowKit Go.Shelf
attribute [local go_sem] Oper.semAt_some
/-- what a round keeps: all blocks below n₀ but E -/
structure KE (n₀ E : Nat) (W W' : World) : Prop where
  size : W.heap.size ≤ W'.heap.size
  blk : ∀ k, k < n₀ → k ≠ E → W'.heap[k]? = W.heap[k]?
theorem KE.trans {n₀ E : Nat} {A B C : World} (h : KE n₀ E A B) (k : KE n₀ E B C) : KE n₀ E A C := ⟨Nat.le_trans h.size k.size, fun i hi hn => (k.blk i hi hn).trans (h.blk i hi hn)⟩
theorem KE.refl (n₀ E : Nat) (W : World) : KE n₀ E W W := ⟨Nat.le_refl _, fun _ _ _ => rfl⟩
theorem KE.of_fr {n₀ E : Nat} {W W' : World} (hf : Fr [E] W W') (hn : n₀ ≤ W.heap.size) : KE n₀ E W W' := ⟨hf.size, fun k hk hne => hf.block k (by omega) (by simpa using hne)⟩
theorem KE.putObj {n₀ E : Nat} (W : World) (l : Nat) (o o' : Obj) (hl : n₀ ≤ l) (h : W.heap[l]? = some o) : KE n₀ E W (W.putObj l o') := by
  have hg := grownBy_putObj' W l o'
  have hlt := (Array.getElem?_eq_some_iff.1 h).1
  exact ⟨hg.size, fun k hk hne => hg.block k (by omega) (fun e => by cases e; omega)⟩
theorem KE.cell {n₀ E : Nat} {W W' : World} (h : KE n₀ E W W') {p : Addr} (hp : p.block < n₀) (hn : p.block ≠ E) : W'.cell? p = W.cell? p := World.cell?_of_block (w := W) (h.blk p.block hp hn)
/-- the items that have come when k rounds are over -/
def backs (zs : List ByteArray) (k : Nat) : List (Nat × ByteArray) := (List.range k).map fun j => (zs.length - 1 - j, (zs[zs.length - 1 - j]?).getD ⟨#[]⟩)
theorem backs_succ (zs : List ByteArray) (k : Nat) : backs zs (k + 1) = backs zs k ++ [(zs.length - 1 - k, (zs[zs.length - 1 - k]?).getD ⟨#[]⟩)] := by simp [backs, List.range_succ]
theorem backs_len (zs : List ByteArray) (k : Nat) : (backs zs k).length = k := by simp [backs]
def encB (x : Nat × ByteArray) : Array Value := #[.int .i64 (x.1 : Int), .string x.2]
set_option maxRecDepth 100000 in
set_option maxHeartbeats 2000000 in
theorem back1_in (F : Fence) (n : Nat) (h8 : F.fn 58) (hro : F.round = none) (hn : 1 ≤ n) (l Bs n₀ E b off cap : Nat) (zs : List ByteArray) (hreach : zs.length ≤ 1000) (hb : b < n₀) (hbE : b ≠ E) (hBn : Bs < n₀) (hBE : Bs ≠ E) (J Jx : List (Nat × ByteArray) → World → Prop)
    (hY : ∀ pre x W, J pre W → pre.length < zs.length → YieldAt F (n - 1) Tryd.prog l (encB x) W fun e W' =>
      (e = .returned (.bool true) ∧ J (pre ++ [x]) W' ∧ KE n₀ E W W') ∨ (e = .returned (.bool false) ∧ Jx (pre ++ [x]) W'))
    (W : World) (hBs : W.cell? ⟨Bs, 0, none⟩ = some (.slice (some ⟨b, off, none⟩) zs.length cap)) (hc : ∀ (j : Nat) v, zs[j]? = some v → W.cell? ⟨b, off + j, none⟩ = some (.string v)) (h0 : J [] W) :
    CallsIn F n Tryd.prog 58 #[.func (.yield l) #[] #[], .pointer (some ⟨Bs, 0, none⟩)] W fun e W' => (∃ v, e = .returned v) ∧
      ((∃ ys, ys = backs zs zs.length ∧ J ys W') ∨ (∃ pre, (∃ k, k ≤ zs.length ∧ pre = backs zs k) ∧ Jx pre W')) := by
  refine callsIn_of_wp Tryd.func58 rfl h8 ?_ hro
  simp only [Tryd.ntmps58, List.size_toArray, List.length_cons, List.length_nil, Nat.reduceAdd, Nat.reduceSub, Array.replicate_succ, Array.replicate_zero, List.push_toArray, List.append_toArray, List.nil_append, List.cons_append]
  gi_wp2
  gi_loopw [3] (fun i wr => ∃ k : Nat, k ≤ zs.length ∧ i = .int .i64 (((zs.length - k : Nat) : Int) - 1) ∧ J (backs zs k) wr ∧ KE n₀ E W wr)
    (fun i _ => (intOf i + 1).toNat)
  case atStart => exact ⟨0, Nat.zero_le _, rfl, h0, KE.refl _ _ _⟩
  case round =>
    obtain ⟨k, hk, rfl, hJs, hnx⟩ := hrel
    by_cases hlt : k < zs.length
    · obtain ⟨x, hx⟩ : ∃ x, zs[zs.length - 1 - k]? = some x := ⟨_, List.getElem?_eq_getElem (by omega)⟩
      obtain ⟨fn, tmps, assign, body, hy, hR⟩ := hY _ (zs.length - 1 - k, x) wr hJs (by rw [backs_len]; exact hlt)
      unfold encB at hy
      dsimp only at hy
      have ei : (((zs.length - k : Nat) : Int) - 1) = ((zs.length - 1 - k : Nat) : Int) := by omega
      have hBs' := (hnx.cell (p := ⟨Bs, 0, none⟩) hBn hBE).trans hBs
      have hcx := (hnx.cell (p := ⟨b, off + (zs.length - 1 - k), none⟩) hb hbE).trans (hc _ x hx)
      have hsucc : backs zs (k + 1) = backs zs k ++ [(zs.length - 1 - k, x)] := by rw [backs_succ, hx]; rfl
      have hmle : zs.length - 1 - k < zs.length := by omega
      have hmk : zs.length - (k + 1) = zs.length - 1 - k := by omega
      have HM := hide hmk
      simp only [ei]
      generalize zs.length - 1 - k = m at *
      clear ei hmk hx
      have m0 : (0 : Int) ≤ (m : Int) := by omega
      have m1 : (m : Int) < (zs.length : Int) := by omega
      gi_wp2
      refine hR.mono ?_
      rintro e W3 (⟨rfl, hJ3, hk3⟩ | ⟨rfl, hJx3⟩)
      · gi_wp2
        go_roundw
        case rel => exact ⟨k + 1, by omega, by rw [HM.out], by rw [hsucc]; exact hJ3, hnx.trans hk3⟩
        case measure => simp [intOf] <;> omega
      · gi_wp2
        refine bodyPost_ret (results_none rfl _ _ _) rfl ?_
        exact ⟨⟨_, rfl⟩, .inr ⟨_, ⟨k + 1, by omega, hsucc.symm⟩, hJx3⟩⟩
    · obtain rfl : k = zs.length := by omega
      rw [Nat.sub_self]
      simp only [show (((0 : Nat) : Int) - 1) = -1 from rfl]
      gi_wp2
      go_end0
      exact ⟨⟨_, rfl⟩, .inl ⟨_, rfl, hJs⟩⟩
theorem back_stops (F : Fence) (n : Nat) (h8 : F.fn 58) (hro : F.round = none) (hn : 1 ≤ n) (Bs n₀ E b off cap : Nat) (zs : List ByteArray) (hreach : zs.length ≤ 1000) (hb : b < n₀) (hbE : b ≠ E) (hBn : Bs < n₀) (hBE : Bs ≠ E) (w : World) (hn₀ : n₀ ≤ w.heap.size)
    (hBs : w.cell? ⟨Bs, 0, none⟩ = some (.slice (some ⟨b, off, none⟩) zs.length cap)) (hc : ∀ (j : Nat) v, zs[j]? = some v → w.cell? ⟨b, off + j, none⟩ = some (.string v)) :
    SeqStopsK F n Tryd.prog 58 #[.pointer (some ⟨Bs, 0, none⟩)] encB (KE n₀ E) (fun ys => ys = backs zs zs.length) (fun pre => ∃ k, k ≤ zs.length ∧ pre = backs zs k) zs.length w := fun l J Jx W hW _ _ hY h0 =>
  back1_in F n h8 hro hn l Bs n₀ E b off cap zs hreach hb hbE hBn hBE J Jx hY W ((hW.cell (p := ⟨Bs, 0, none⟩) (by show Bs < _; omega)).trans hBs) (fun j v hv => (hW.cell (p := ⟨b, off + j, none⟩) (by show b < _; omega)).trans (hc j v hv)) h0
set_option maxHeartbeats 1000000 in
theorem back_calls (a : Option Addr) (len cap : Nat) (w : World) :
    Calls Tryd.prog 47 #[.slice a len cap] w fun e w' => e = .returned (.func (.func 58) #[] #[.pointer (some ⟨w.heap.size, 0, none⟩)]) ∧ w.alloc (.cells #[.slice a len cap] 103) = w' := by
  go_enter Tryd.func47, Tryd.ntmps47
  go_wp2_with fail
  go_ret
  exact ⟨rfl, rfl⟩
end Go.Proofs.YtnncbmbepdkfnaaDoor

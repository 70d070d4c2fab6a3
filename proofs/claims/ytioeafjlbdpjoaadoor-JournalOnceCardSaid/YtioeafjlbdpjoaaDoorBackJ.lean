/- slices.Backward over stretches and over entries: the iterators' contracts. -/
import Derived.Test.YtioeafjlbdpjoaaDoorIdx
import Derived.RangeFuncNested
import Derived.RangeFuncBound
import Derived.RangeFuncCalls
import Derived.RangeFuncLeaves
import Derived.Shelf.Abstract
import Derived.Shelf.RegionOpen
import Derived.OwnWalkIn
import Derived.TacticsInMore
import Derived.LoopNIn
import Derived.LoopIn
namespace Go.Proofs.YtioeafjlbdpjoaaDoor
open Go.RowKit Go.Shelf
attribute [local go_sem] Oper.semAt_some
/-- what a round keeps: the blocks of a list -/
structure KL (L : List Nat) (W W' : World) : Prop where
  size : W.heap.size ≤ W'.heap.size
  blk : ∀ k ∈ L, W'.heap[k]? = W.heap[k]?
section
variable {L : List Nat} {W W' A B C : World}
theorem KL.trans (h : KL L A B) (k : KL L B C) : KL L A C := ⟨Nat.le_trans h.size k.size, fun i hi => (k.blk i hi).trans (h.blk i hi)⟩
theorem KL.refl (L : List Nat) (W : World) : KL L W W := ⟨Nat.le_refl _, fun _ _ => rfl⟩
theorem KL.of_fr {S : List Nat} (hf : Fr S W W') (hL : ∀ k ∈ L, k < W.heap.size ∧ k ∉ S) : KL L W W' := ⟨hf.size, fun k hk => hf.block k (hL k hk).1 (hL k hk).2⟩
theorem KL.putObj {n : Nat} (W : World) (l : Nat) (o o' : Obj) (hl : n ≤ l) (hL : ∀ k ∈ L, k < n) (h : W.heap[l]? = some o) : KL L W (W.putObj l o') := by
  have hg := grownBy_putObj' W l o'
  have hlt := (Array.getElem?_eq_some_iff.1 h).1
  exact ⟨hg.size, fun k hk => hg.block k (by have := hL k hk; omega) (fun e => by have := hL k hk; cases e; omega)⟩
theorem KL.cell (h : KL L W W') {p : Addr} (hp : p.block ∈ L) : W'.cell? p = W.cell? p := World.cell?_of_block (w := W) (h.blk p.block hp)
end
section
variable {γ : Type}
/-- the items, the last one first, and those that have come when k rounds are over -/
def revI (zs : List γ) : List (Nat × γ) := (zs.zipIdx.map fun p => (p.2, p.1)).reverse
def backs (zs : List γ) (k : Nat) : List (Nat × γ) := (revI zs).take k
theorem revI_len (zs : List γ) : (revI zs).length = zs.length := by simp [revI]
theorem backs_succ {zs : List γ} {k : Nat} {x : γ} (hk : k < zs.length) (hx : zs[zs.length - 1 - k]? = some x) : backs zs (k + 1) = backs zs k ++ [(zs.length - 1 - k, x)] := by
  have hl : k < (revI zs).length := by rw [revI_len]; exact hk
  have h2 : (revI zs)[k]? = some (zs.length - 1 - k, x) := by
    unfold revI
    rw [List.getElem?_reverse (by simpa using hk), List.length_map, List.length_zipIdx, List.getElem?_map, List.getElem?_zipIdx, hx]
    simp
  unfold backs
  rw [List.take_add_one, h2]
  rfl
theorem backs_len {zs : List γ} {k : Nat} (hk : k ≤ zs.length) : (backs zs k).length = k := by
  unfold backs
  rw [List.length_take, revI_len]
  omega
theorem backs_all (zs : List γ) : (backs zs zs.length).map (·.2) = zs.reverse := by
  unfold backs
  rw [List.take_of_length_le (by rw [revI_len]; omega)]
  unfold revI
  rw [List.map_reverse, List.map_map]
  congr 1
  apply List.ext_getElem?
  intro i
  rw [List.getElem?_map, List.getElem?_zipIdx]
  cases zs[i]? <;> rfl
end
section
variable {γ : Type}
def encS (pt : γ → Nat) (x : Nat × γ) : Array Value := #[.int .i64 (x.1 : Int), ptr (pt x.2)]
set_option maxRecDepth 100000 in
set_option maxHeartbeats 2000000 in
theorem backS1_in (F : Fence) (n : Nat) (h8 : F.fn 49) (hro : F.round = none) (hn : 1 ≤ n) (l Bs cap : Nat) (A : Option Addr) (L : List Nat) (pt : γ → Nat) (zs : List γ) (hreach : zs.length ≤ 100000) (hBL : Bs ∈ L) (J Jx : List (Nat × γ) → World → Prop)
    (hY : ∀ pre x W, J pre W → pre.length < zs.length → YieldAt F (n - 1) Tryd.prog l (encS pt x) W fun e W' =>
      (e = .returned (.bool true) ∧ J (pre ++ [x]) W' ∧ KL L W W') ∨ (e = .returned (.bool false) ∧ Jx (pre ++ [x]) W'))
    (W : World) (hBs : W.cell? ⟨Bs, 0, none⟩ = some (.slice A zs.length cap)) (hc : zs ≠ [] → ∃ b off, A = some ⟨b, off, none⟩ ∧ b ∈ L ∧ ∀ (j : Nat) v, zs[j]? = some v → W.cell? ⟨b, off + j, none⟩ = some (ptr (pt v))) (h0 : J [] W) :
    CallsIn F n Tryd.prog 49 #[.func (.yield l) #[] #[], .pointer (some ⟨Bs, 0, none⟩)] W fun e W' => (∃ v, e = .returned v) ∧
      ((∃ ys, ys = backs zs zs.length ∧ J ys W') ∨ (∃ pre, (∃ k, k ≤ zs.length ∧ pre = backs zs k) ∧ Jx pre W')) := by
  refine callsIn_of_wp Tryd.func49 rfl h8 ?_ hro
  simp only [Tryd.ntmps49, List.size_toArray, List.length_cons, List.length_nil, Nat.reduceAdd, Nat.reduceSub, Array.replicate_succ, Array.replicate_zero, List.push_toArray, List.append_toArray, List.nil_append, List.cons_append]
  gi_wp2
  gi_loopw [3] (fun i wr => ∃ k : Nat, k ≤ zs.length ∧ i = .int .i64 (((zs.length - k : Nat) : Int) - 1) ∧ J (backs zs k) wr ∧ KL L W wr)
    (fun i _ => (intOf i + 1).toNat)
  case atStart => exact ⟨0, Nat.zero_le _, rfl, h0, KL.refl _ _⟩
  case round =>
    obtain ⟨k, hk, rfl, hJs, hnx⟩ := hrel
    by_cases hlt : k < zs.length
    · obtain ⟨b, off, rfl, hbL, hc⟩ := hc (fun e => by rw [e] at hlt; simp at hlt)
      obtain ⟨x, hx⟩ : ∃ x, zs[zs.length - 1 - k]? = some x := ⟨_, List.getElem?_eq_getElem (by omega)⟩
      obtain ⟨fn, tmps, assign, body, hy, hR⟩ := hY _ (zs.length - 1 - k, x) wr hJs (by rw [backs_len hk]; exact hlt)
      unfold encS at hy
      dsimp only at hy
      have ei : (((zs.length - k : Nat) : Int) - 1) = ((zs.length - 1 - k : Nat) : Int) := by omega
      have hBs' := (hnx.cell (p := ⟨Bs, 0, none⟩) hBL).trans hBs
      have hcx := (hnx.cell (p := ⟨b, off + (zs.length - 1 - k), none⟩) hbL).trans (hc _ x hx)
      have hsucc : backs zs (k + 1) = backs zs k ++ [(zs.length - 1 - k, x)] := backs_succ hlt hx
      have hmle : zs.length - 1 - k < zs.length := by omega
      have hmk : zs.length - (k + 1) = zs.length - 1 - k := by omega
      have HM := hide hmk
      simp only [ei]
      generalize zs.length - 1 - k = m at *
      clear ei hmk hx
      have m0 : (0 : Int) ≤ (m : Int) := by omega
      have m1 : (m : Int) < (zs.length : Int) := by omega
      gi_wp2
      refine hR.mono ?_
      rintro e W3 (⟨rfl, hJ3, hk3⟩ | ⟨rfl, hJx3⟩)
      · gi_wp2
        go_roundw
        case rel => exact ⟨k + 1, by omega, by rw [HM.out], by rw [hsucc]; exact hJ3, hnx.trans hk3⟩
        case measure => simp [intOf] <;> omega
      · gi_wp2
        refine bodyPost_ret (results_none rfl _ _ _) rfl ?_
        exact ⟨⟨_, rfl⟩, .inr ⟨_, ⟨k + 1, by omega, hsucc.symm⟩, hJx3⟩⟩
    · obtain rfl : k = zs.length := by omega
      rw [Nat.sub_self]
      simp only [show (((0 : Nat) : Int) - 1) = -1 from rfl]
      gi_wp2
      go_end0
      exact ⟨⟨_, rfl⟩, .inl ⟨_, rfl, hJs⟩⟩
theorem backS_stops (F : Fence) (n : Nat) (h8 : F.fn 49) (hro : F.round = none) (hn : 1 ≤ n) (Bs cap : Nat) (A : Option Addr) (L : List Nat) (pt : γ → Nat) (zs : List γ) (hreach : zs.length ≤ 100000) (hBL : Bs ∈ L) (w : World) (hL : ∀ k ∈ L, k < w.heap.size)
    (hBs : w.cell? ⟨Bs, 0, none⟩ = some (.slice A zs.length cap)) (hc : zs ≠ [] → ∃ b off, A = some ⟨b, off, none⟩ ∧ b ∈ L ∧ ∀ (j : Nat) v, zs[j]? = some v → w.cell? ⟨b, off + j, none⟩ = some (ptr (pt v))) :
    SeqStopsK F n Tryd.prog 49 #[.pointer (some ⟨Bs, 0, none⟩)] (encS pt) (KL L) (fun ys => ys = backs zs zs.length) (fun pre => ∃ k, k ≤ zs.length ∧ pre = backs zs k) zs.length w := fun l J Jx W hW _ _ hY h0 =>
  backS1_in F n h8 hro hn l Bs cap A L pt zs hreach hBL J Jx hY W ((hW.cell (p := ⟨Bs, 0, none⟩) (hL Bs hBL)).trans hBs) (fun hne => by
    obtain ⟨b, off, hA, hb, hcc⟩ := hc hne
    exact ⟨b, off, hA, hb, fun j v hv => (hW.cell (p := ⟨b, off + j, none⟩) (hL b hb)).trans (hcc j v hv)⟩) h0
set_option maxHeartbeats 1000000 in
theorem backS_calls (a : Option Addr) (len cap : Nat) (w : World) :
    Calls Tryd.prog 35 #[.slice a len cap] w fun e w' => e = .returned (.func (.func 49) #[] #[.pointer (some ⟨w.heap.size, 0, none⟩)]) ∧ w.alloc (.cells #[.slice a len cap] 65) = w' := by
  go_enter Tryd.func35, Tryd.ntmps35
  go_wp2_with fail
  go_ret
  exact ⟨rfl, rfl⟩
/-! entries -/
def encE (ud : γ → Ud) (x : Nat × γ) : Array Value := #[.int .i64 (x.1 : Int), (ud x.2).val]
set_option maxRecDepth 100000 in
set_option maxHeartbeats 2000000 in
theorem backU1_in (F : Fence) (n : Nat) (h8 : F.fn 50) (hro : F.round = none) (hn : 1 ≤ n) (l Bs cap : Nat) (A : Option Addr) (L : List Nat) (ud : γ → Ud) (zs : List γ) (hreach : zs.length ≤ 100000) (hBL : Bs ∈ L) (J Jx : List (Nat × γ) → World → Prop)
    (hY : ∀ pre x W, J pre W → pre.length < zs.length → YieldAt F (n - 1) Tryd.prog l (encE ud x) W fun e W' =>
      (e = .returned (.bool true) ∧ J (pre ++ [x]) W' ∧ KL L W W') ∨ (e = .returned (.bool false) ∧ Jx (pre ++ [x]) W'))
    (W : World) (hBs : W.cell? ⟨Bs, 0, none⟩ = some (.slice A zs.length cap)) (hc : zs ≠ [] → ∃ b off, A = some ⟨b, off, none⟩ ∧ b ∈ L ∧ ∀ (j : Nat) v, (zs.flatMap fun z => (ud z).cells)[j]? = some v → W.cell? ⟨b, off + j, none⟩ = some v) (h0 : J [] W) :
    CallsIn F n Tryd.prog 50 #[.func (.yield l) #[] #[], .pointer (some ⟨Bs, 0, none⟩)] W fun e W' => (∃ v, e = .returned v) ∧
      ((∃ ys, ys = backs zs zs.length ∧ J ys W') ∨ (∃ pre, (∃ k, k ≤ zs.length ∧ pre = backs zs k) ∧ Jx pre W')) := by
  refine callsIn_of_wp Tryd.func50 rfl h8 ?_ hro
  simp only [Tryd.ntmps50, List.size_toArray, List.length_cons, List.length_nil, Nat.reduceAdd, Nat.reduceSub, Array.replicate_succ, Array.replicate_zero, List.push_toArray, List.append_toArray, List.nil_append, List.cons_append]
  gi_wp2
  gi_loopw [3] (fun i wr => ∃ k : Nat, k ≤ zs.length ∧ i = .int .i64 (((zs.length - k : Nat) : Int) - 1) ∧ J (backs zs k) wr ∧ KL L W wr)
    (fun i _ => (intOf i + 1).toNat)
  case atStart => exact ⟨0, Nat.zero_le _, rfl, h0, KL.refl _ _⟩
  case round =>
    obtain ⟨k, hk, rfl, hJs, hnx⟩ := hrel
    by_cases hlt : k < zs.length
    · obtain ⟨b, off, rfl, hbL, hc⟩ := hc (fun e => by rw [e] at hlt; simp at hlt)
      obtain ⟨x, hx⟩ : ∃ x, zs[zs.length - 1 - k]? = some x := ⟨_, List.getElem?_eq_getElem (by omega)⟩
      obtain ⟨fn, tmps, assign, body, hy, hR⟩ := hY _ (zs.length - 1 - k, x) wr hJs (by rw [backs_len hk]; exact hlt)
      unfold encE Ud.val at hy
      dsimp only at hy
      have ei : (((zs.length - k : Nat) : Int) - 1) = ((zs.length - 1 - k : Nat) : Int) := by omega
      have hBs' := (hnx.cell (p := ⟨Bs, 0, none⟩) hBL).trans hBs
      have hcx := fun (j : Nat) (v : Value) (hj : j < 11) (hv : (ud x).cells[j]? = some v) => (hnx.cell (p := ⟨b, off + ((zs.length - 1 - k) * 11 + j), none⟩) hbL).trans (hc _ v (by rw [flat_get (f := fun z => (ud z).cells) (fun z => Ud.cells_len (ud z)) hx j hj, hv]))
      have c0 := hcx 0 _ (by omega) rfl
      have c1 := hcx 1 _ (by omega) rfl
      have c2 := hcx 2 _ (by omega) rfl
      have c3 := hcx 3 _ (by omega) rfl
      have c4 := hcx 4 _ (by omega) rfl
      have c5 := hcx 5 _ (by omega) rfl
      have c6 := hcx 6 _ (by omega) rfl
      have c7 := hcx 7 _ (by omega) rfl
      have c8 := hcx 8 _ (by omega) rfl
      have c9 := hcx 9 _ (by omega) rfl
      have c10 := hcx 10 _ (by omega) rfl
      rw [Nat.add_zero] at c0
      rw [← Nat.add_assoc] at c1 c2 c3 c4 c5 c6 c7 c8 c9 c10
      have hsucc : backs zs (k + 1) = backs zs k ++ [(zs.length - 1 - k, x)] := backs_succ hlt hx
      have hmle : zs.length - 1 - k < zs.length := by omega
      have hmk : zs.length - (k + 1) = zs.length - 1 - k := by omega
      have HM := hide hmk
      simp only [ei]
      generalize zs.length - 1 - k = m at *
      clear ei hmk hx hcx
      have m0 : (0 : Int) ≤ (m : Int) := by omega
      have m1 : (m : Int) < (zs.length : Int) := by omega
      gi_wp2
      refine hR.mono ?_
      rintro e W3 (⟨rfl, hJ3, hk3⟩ | ⟨rfl, hJx3⟩)
      · gi_wp2
        go_roundw
        case rel => exact ⟨k + 1, by omega, by rw [HM.out], by rw [hsucc]; exact hJ3, hnx.trans hk3⟩
        case measure => simp [intOf] <;> omega
      · gi_wp2
        refine bodyPost_ret (results_none rfl _ _ _) rfl ?_
        exact ⟨⟨_, rfl⟩, .inr ⟨_, ⟨k + 1, by omega, hsucc.symm⟩, hJx3⟩⟩
    · obtain rfl : k = zs.length := by omega
      rw [Nat.sub_self]
      simp only [show (((0 : Nat) : Int) - 1) = -1 from rfl]
      gi_wp2
      go_end0
      exact ⟨⟨_, rfl⟩, .inl ⟨_, rfl, hJs⟩⟩
theorem backU_stops (F : Fence) (n : Nat) (h8 : F.fn 50) (hro : F.round = none) (hn : 1 ≤ n) (Bs cap : Nat) (A : Option Addr) (L : List Nat) (ud : γ → Ud) (zs : List γ) (hreach : zs.length ≤ 100000) (hBL : Bs ∈ L) (w : World) (hL : ∀ k ∈ L, k < w.heap.size)
    (hBs : w.cell? ⟨Bs, 0, none⟩ = some (.slice A zs.length cap)) (hc : zs ≠ [] → ∃ b off, A = some ⟨b, off, none⟩ ∧ b ∈ L ∧ ∀ (j : Nat) v, (zs.flatMap fun z => (ud z).cells)[j]? = some v → w.cell? ⟨b, off + j, none⟩ = some v) :
    SeqStopsK F n Tryd.prog 50 #[.pointer (some ⟨Bs, 0, none⟩)] (encE ud) (KL L) (fun ys => ys = backs zs zs.length) (fun pre => ∃ k, k ≤ zs.length ∧ pre = backs zs k) zs.length w := fun l J Jx W hW _ _ hY h0 =>
  backU1_in F n h8 hro hn l Bs cap A L ud zs hreach hBL J Jx hY W ((hW.cell (p := ⟨Bs, 0, none⟩) (hL Bs hBL)).trans hBs) (fun hne => by
    obtain ⟨b, off, hA, hb, hcc⟩ := hc hne
    exact ⟨b, off, hA, hb, fun j v hv => (hW.cell (p := ⟨b, off + j, none⟩) (hL b hb)).trans (hcc j v hv)⟩) h0
set_option maxHeartbeats 1000000 in
theorem backU_calls (a : Option Addr) (len cap : Nat) (w : World) :
    Calls Tryd.prog 36 #[.slice a len cap] w fun e w' => e = .returned (.func (.func 50) #[] #[.pointer (some ⟨w.heap.size, 0, none⟩)]) ∧ w.alloc (.cells #[.slice a len cap] 38) = w' := by
  go_enter Tryd.func36, Tryd.ntmps36
  go_wp2_with fail
  go_ret
  exact ⟨rfl, rfl⟩
end
end Go.Proofs.YtioeafjlbdpjoaaDoor

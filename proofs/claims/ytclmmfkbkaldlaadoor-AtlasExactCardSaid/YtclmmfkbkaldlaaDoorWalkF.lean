/- walk of package atlas. -/
import Derived.Test.YtclmmfkbkaldlaaDoorWay
namespace Go.Proofs.YtclmmfkbkaldlaaDoor
open Go.RowKit

def tgt (more : Bool) (m c : Nat) : Nat := if more then wth m c else wout m c
theorem edge_ok {B : Nat} {w : World} {g cn : Nat} {ms S : List Nat} (h : AtlR B w g cn ms S) (hB : B ≤ w.heap.size) {n m : Nat} (hm : ms[n]? = some m) {c : Nat} (hc : c < cn) (hl : ms.length ≤ 1000000) (more : Bool) :
    Calls Tryd.prog 29 #[.pointer (some ⟨g, 0, none⟩), .int .i64 n, .int .i64 c, .bool more] w fun e w' => e = .returned (.tuple #[.int .i64 ((addm ms (tgt more m c)).idxOf (tgt more m c) : Nat), .nilIface]) ∧ ∃ S', AtlR B w' g cn (addm ms (tgt more m c)) S' ∧ Stp S S' w w' := by
  cases more
  · exact edge_less h hB hm hc hl
  · exact edge_more h hB hm hc hl
/-- a step of a way: the sets, where it stands, the way -/
def stp (more : Bool) (s : List Nat × Nat × List Nat) (c : Nat) : List Nat × Nat × List Nat := (addm s.1 (tgt more s.2.1 c), tgt more s.2.1 c, s.2.2 ++ [(addm s.1 (tgt more s.2.1 c)).idxOf (tgt more s.2.1 c)])
def runs (more : Bool) (s : List Nat × Nat × List Nat) (cs : List Nat) : List Nat × Nat × List Nat := cs.foldl (stp more) s
theorem runs_snoc (more : Bool) (s : List Nat × Nat × List Nat) {cs : List Nat} {i c : Nat} (h : cs[i]? = some c) : runs more s (cs.take (i + 1)) = stp more (runs more s (cs.take i)) c := by
  have hlt := (List.getElem?_eq_some_iff.1 h).1
  rw [List.take_succ_eq_append_getElem hlt]
  have e : cs[i] = c := by simpa [hlt] using h
  simp [runs, e]
/-- the way ends where it stands -/
def At (s : List Nat × Nat × List Nat) : Prop := ∃ p n, s.2.2.length = p + 1 ∧ s.2.2[p]? = some n ∧ s.1[n]? = some s.2.1
theorem At.stp (s : List Nat × Nat × List Nat) (more : Bool) (c : Nat) : At (stp more s c) :=
  ⟨s.2.2.length, _, by simp [Go.Proofs.YtclmmfkbkaldlaaDoor.stp], by simp [Go.Proofs.YtclmmfkbkaldlaaDoor.stp], addm_idx _ _⟩

def WalkPost (B base : Nat) (w : World) (g cn : Nat) (S : List Nat) (vW : Value) (s : List Nat × Nat × List Nat) (e : Ending) (w' : World) : Prop :=
  ∃ v S', e = .returned (.tuple #[v, .nilIface]) ∧ w'.ownsRow base 3 1 v s.2.2.length (nats s.2.2) ∧ AtlR B w' g cn s.1 S' ∧ Fr (S ++ vW.ownBlock.toList) w w' ∧ (∀ b ∈ S', b ∈ S ∨ w.heap.size ≤ b) ∧
    (∀ b, v.ownBlock = some b → vW.ownBlock = some b ∨ w.heap.size ≤ b) ∧ (∀ b, v.ownBlock = some b → b ∉ S')
/-- what holds at the loop's head -/
structure WI (B base : Nat) (w : World) (g cn : Nat) (S : List Nat) (vW : Value) (s : List Nat × Nat × List Nat) (v vL : Value) (cs : List Nat) (S' : List Nat) (wr : World) : Prop where
  row : wr.ownsRow base 3 1 v s.2.2.length (nats s.2.2)
  atl : AtlR B wr g cn s.1 S'
  lst : wr.ownsRow w.heap.size 3 1 vL cs.length (nats cs)
  fr : Fr (S ++ vW.ownBlock.toList) w wr
  new : ∀ b ∈ S', b ∈ S ∨ w.heap.size ≤ b
  own : ∀ b, v.ownBlock = some b → vW.ownBlock = some b ∨ w.heap.size ≤ b
  dis : ∀ b, v.ownBlock = some b → b ∉ S'
  ldis : ∀ b, vL.ownBlock = some b → b ∉ S' ∧ v.ownBlock ≠ some b
  stands : At s
theorem WI.step {B base : Nat} {w : World} {g cn : Nat} {S S' S2 : List Nat} {vW v vL : Value} {s : List Nat × Nat × List Nat} {cs : List Nat} {wr w2 w3 : World} (h : WI B base w g cn S vW s v vL cs S' wr) {c : Nat} {more : Bool} {gg cap : Nat} {o : Obj}
    (hr : AtlR B w2 g cn (stp more s c).1 S2) (hst : Stp S' S2 wr w2)
    (hown : w3.ownsRow base 3 1 (.slice (some ⟨gg, 0, none⟩) (s.2.2.length + 1) cap) (s.2.2.length + 1) (nats s.2.2 ++ [.int .i64 ((addm s.1 (tgt more s.2.1 c)).idxOf (tgt more s.2.1 c) : Nat)]))
    (hgrow : (w2.alloc o).grownBy w3 v.ownBlock) (hat : v.ownBlock = some gg ∨ gg = w2.heap.size + 1) :
    WI B base w g cn S vW (stp more s c) (.slice (some ⟨gg, 0, none⟩) (s.2.2.length + 1) cap) vL cs S2 w3 := by
  have hw2 := hst.1.size
  have hwr := h.fr.size
  have hv2 : ∀ b, v.ownBlock = some b → b ∉ S2 := fun b hb hm => (hst.2 b hm).elim (h.dis b hb) fun hge => by have := (row_lt h.row hb).1; omega
  have hl2 : ∀ b, vL.ownBlock = some b → b ∉ S2 := fun b hb hm => (hst.2 b hm).elim (h.ldis b hb).1 fun hge => by have := (row_lt h.lst hb).1; omega
  have hf3 : Fr v.ownBlock.toList w2 w3 := ((Fr.refl _ w2).alloc o).grown hgrow fun k hk => .inl (by simp [hk])
  have hS2 : ∀ b ∈ S2, b < w2.heap.size := fun b hb => (hr.lt b hb).1
  refine ⟨?_, hr.fr hf3 fun b hb hm => hv2 b (by simpa using hm) hb, ?_, ?_, ?_, ?_, ?_, ?_, At.stp s more c⟩
  · simpa [stp, nats, ints] using hown
  · exact row_fr (row_fr h.lst hst.1 fun b hb => (h.ldis b hb).1) hf3 fun b hb hm => (h.ldis b hb).2 (by simpa using hm)
  · refine (h.fr.step hst.1 fun x hx => (h.new x hx).imp_left fun hm => List.mem_append_left _ hm).step hf3 fun x hx => ?_
    exact (h.own x (by simpa using hx)).imp_left fun e => List.mem_append_right _ (by simp [e])
  · exact fun b hb => (hst.2 b hb).elim (h.new b) fun hge => .inr (by omega)
  · intro b hb
    obtain rfl : gg = b := by simpa [Value.ownBlock] using hb
    exact hat.elim (h.own gg) fun e => .inr (by omega)
  · intro b hb hm
    obtain rfl : gg = b := by simpa [Value.ownBlock] using hb
    exact hat.elim (fun e => hv2 gg e hm) fun e => by have := hS2 gg hm; omega
  · intro b hb
    refine ⟨hl2 b hb, fun e => ?_⟩
    obtain rfl : gg = b := by simpa [Value.ownBlock] using e
    exact hat.elim (h.ldis gg hb).2 fun e => by have := (row_lt h.lst hb).1; omega
theorem bits_lt {k cn c : Nat} (hk : k < 2 ^ cn) (hc : c ∈ bitsOf k) : c < cn := by
  unfold bitsOf at hc
  rw [List.mem_filter] at hc
  rcases Nat.lt_or_ge c cn with h | h
  · exact h
  · exfalso
    have h2 : k < 2 ^ c := Nat.lt_of_lt_of_le hk (Nat.pow_le_pow_right (by omega) h)
    rw [Nat.testBit_lt_two_pow h2] at hc
    exact absurd hc.2 (by simp)
theorem runs_len (more : Bool) : ∀ (cs : List Nat) (s : List Nat × Nat × List Nat), (runs more s cs).1.length ≤ s.1.length + cs.length ∧ (runs more s cs).2.2.length = s.2.2.length + cs.length
  | [], s => by simp [runs]
  | c :: cs, s => by
    obtain ⟨h1, h2⟩ := runs_len more cs (stp more s c)
    have h3 := addm_len s.1 (tgt more s.2.1 c)
    simp only [runs, List.foldl_cons, List.length_cons] at h1 h2 ⊢
    have e1 : (stp more s c).1 = addm s.1 (tgt more s.2.1 c) := rfl
    have e2 : (stp more s c).2.2.length = s.2.2.length + 1 := by simp [stp]
    rw [e1] at h1
    rw [e2] at h2
    exact ⟨by omega, by omega⟩
set_option maxRecDepth 100000 in
set_option maxHeartbeats 2000000 in
theorem walk_ok {B base : Nat} {w : World} {g cn : Nat} {ms S : List Nat} (hT : Tab w) (h : AtlR B w g cn ms S) (hB : B ≤ w.heap.size) {vW : Value} {way : List Nat} (hw : w.ownsRow base 3 1 vW way.length (nats way)) (hbase : base ≤ w.heap.size) (hd : ∀ b, vW.ownBlock = some b → b ∉ S)
    (m : Nat) (hat : At (ms, m, way)) (k : Nat) (hk : k < 2 ^ cn) (more : Bool) (hl : ms.length ≤ 900000) (hlw : way.length ≤ 1000) :
    Calls Tryd.prog 30 #[.pointer (some ⟨g, 0, none⟩), vW, .int .u32 k, .bool more] w (WalkPost B base w g cn S vW (runs more (ms, m, way) (bitsOf k))) := by
  have HL := hide (list_calls hT k (Nat.lt_of_lt_of_le hk (pow_le32 (by have := h.cn16; omega))))
  have HA := hide (And.intro h (And.intro hB (And.intro hw (And.intro hbase (And.intro hd hat)))))
  have Hk := hide hk
  obtain ⟨i0, hi0, hz0, hz1, hz2⟩ := info_parts infoInt
  clear h hB hw hbase hd hat hT hk
  go_enter Tryd.func30, Tryd.ntmps30
  go_wp2_with fail
  refine HL.out.mono ?_
  rintro e w1 ⟨vL, rfl, hr, hf⟩
  obtain ⟨AL, cL, rfl⟩ : ∃ A c, vL = .slice A (bitsOf k).length c := by
    rcases row_form hr with ⟨rfl, h0, _⟩ | ⟨gp, cp, rfl, _⟩
    · rw [h0]; exact ⟨_, _, rfl⟩
    · exact ⟨_, _, rfl⟩
  have h0 : WI B base w g cn S vW (ms, m, way) vW (.slice AL (bitsOf k).length cL) (bitsOf k) S w1 := by
    obtain ⟨h, hB, hw, hbase, hd, hat⟩ := HA.out
    refine ⟨row_fr hw hf (by simp), h.fr0 hf, hr, hf.any _, fun b hb => .inl hb, fun b hb => .inl hb, hd, fun b hb => ⟨fun hm => ?_, fun e => ?_⟩, hat⟩
    · have := (row_lt hr hb).2; have := (h.lt b hm).1; omega
    · have := (row_lt hr hb).2; have := (row_lt hw e).1; omega
  have H0 := hide h0
  have hbl := bitsOf_len k
  clear h0 hr hf HL
  go_wp2_with fail
  go_loopw [1, 17] (fun s1 s17 wr => ∃ (i : Nat) (S' : List Nat), i ≤ (bitsOf k).length ∧ s17 = .int .i64 i ∧ WI B base w g cn S vW (runs more (ms, m, way) ((bitsOf k).take i)) s1 (.slice AL (bitsOf k).length cL) (bitsOf k) S' wr) (fun _ s17 _ => (bitsOf k).length - (intOf s17).toNat)
  case atStart => exact ⟨0, S, by omega, rfl, H0.out⟩
  case round =>
    obtain ⟨i, S', hi, rfl, hI⟩ := hrel
    clear H0
    by_cases hi1 : i < (bitsOf k).length
    · obtain ⟨c, hc⟩ : ∃ c, (bitsOf k)[i]? = some c := ⟨_, List.getElem?_eq_getElem hi1⟩
      obtain ⟨gL, rfl⟩ : ∃ gp, AL = some ⟨gp, 0, none⟩ := by
        rcases row_form hI.lst with ⟨_, h0, _⟩ | ⟨gp, cp, h0, _⟩
        · omega
        · injection h0 with h0; exact ⟨_, h0⟩
      have k0 := row_cell hI.lst (i := i) (u := .int .i64 c) (by simp [nats, ints, hc])
      have n0 : (0 : Int) ≤ (i : Int) := by omega
      have n1 : (i : Int) < ((bitsOf k).length : Int) := by omega
      have hsn := runs_snoc more (ms, m, way) hc
      have hcn : c < cn := bits_lt Hk.out (List.mem_of_getElem? hc)
      obtain ⟨h1, h2⟩ := runs_len more ((bitsOf k).take i) (ms, m, way)
      have h3 := List.length_take_le i (bitsOf k)
      generalize runs more (ms, m, way) ((bitsOf k).take i) = s at *
      obtain ⟨p, n, hp, hpn, hn⟩ := hI.stands
      obtain ⟨gw, cw, rfl⟩ : ∃ gp c, u1 = .slice (some ⟨gp, 0, none⟩) (p + 1) c := by
        rcases row_form hI.row with ⟨_, h0, _⟩ | ⟨gp, cp, h0, _⟩
        · omega
        · rw [hp] at h0; exact ⟨_, _, h0⟩
      have k1 := row_cell (by rw [← hp] at hI; exact hI.row) (i := p) (u := .int .i64 n) (by simp [nats, ints, hpn])
      have HI := hide (And.intro hI (And.intro hsn (And.intro hc hp)))
      have HE := hide (edge_ok hI.atl (Nat.le_trans HA.out.2.1 hI.fr.size) hn hcn (by simp at h1; omega) more)
      have hp1 : p ≤ 2000 := by simp at h2; omega
      have hBw : B ≤ wr.heap.size := Nat.le_trans HA.out.2.1 hI.fr.size
      clear hI hsn hc hp hpn hn hcn h1 h2
      go_wp2_with fail
      refine HE.out.mono ?_
      rintro e w2 ⟨rfl, S2, hr2, hst⟩
      have HR := hide (And.intro (row_fr (by have := HI.out.1.row; rw [HI.out.2.2.2] at this; exact this) hst.1 HI.out.1.dis) (And.intro hr2 hst))
      have hsz := hst.1.size
      have hb2 : base ≤ w2.heap.size := by have := HA.out.2.2.2.1; have := HI.out.1.fr.size; omega
      have hidx : (addm s.1 (tgt more s.2.1 c)).idxOf (tgt more s.2.1 c) < 9000000 := by
        have h1 := List.idxOf_lt_length_of_mem (addm_mem s.1 (tgt more s.2.1 c))
        have h2 := HI.out.2.1
        have h4 := (runs_len more ((bitsOf k).take (i + 1)) (ms, m, way)).1
        rw [h2] at h4
        have h5 : (stp more s c).1 = addm s.1 (tgt more s.2.1 c) := rfl
        rw [h5] at h4
        have h6 := List.length_take_le (i + 1) (bitsOf k)
        simp only at h4
        omega
      clear hr2 hst HE
      go_wp2_with (at_builtin; refine wpList_append_lies _ rfl _ _ _ rfl base 3 i0 _ 1 8 Tryd.underlying29 hi0 hz0 hz1 hz2 rfl (by omega) (.slice (some ⟨gw, 0, none⟩) (p + 1) cw) (p + 1) (nats s.2.2) rfl ((HR.out.1.alloc _)) ⟨w2.heap.size, 0, none⟩ 1 1 [.int .i64 ((addm s.1 (tgt more s.2.1 c)).idxOf (tgt more s.2.1 c) : Nat)] rfl rfl (World.news_of_block (cs := #[.int .i64 ((addm s.1 (tgt more s.2.1 c)).idxOf (tgt more s.2.1 c) : Nat)]) (t := 3) (fr := (0, 0)) (Blk.new_at _ _ _ _ (by simp))) (by simp [Value.oneCell']) (by omega) (by unfold maxLen; omega) (by omega) (by simp; omega) (w2.heap.size + 1) (by simp) ?_; intro gg cap w3 hown3 hgrow hat hlt3)
      have hn := WI.step (by have := HI.out.1; exact this) (more := more) (c := c) HR.out.2.1 HR.out.2.2 (by rw [HI.out.2.2.2]; exact hown3) hgrow hat
      rw [HI.out.2.2.2, ← HI.out.2.1] at hn
      have Hn := hide hn
      clear hn hown3 hgrow hat
      go_roundw
      case rel => exact ⟨i + 1, S2, by omega, by go_num, Hn.out⟩
      case measure => simp [intOf]; omega
    · have hin : i = (bitsOf k).length := by omega
      subst hin
      rw [List.take_length] at hI
      have HI := hide hI
      clear hI
      go_wp2_with fail
      go_ret2
      exact ⟨_, S', rfl, HI.out.row, HI.out.atl, HI.out.fr, HI.out.new, HI.out.own, HI.out.dis⟩
end Go.Proofs.YtclmmfkbkaldlaaDoor

/- The reference of chapter 08 by contracts: Way. -/
import Derived.Test.YtclmmfkbkaldlaaDoorRefA2
import Derived.Test.YtclmmfkbkaldlaaDoorWaysPure
namespace Go.Proofs.YtclmmfkbkaldlaaDoor
open Go.RowKit

/-- the bits below c -/
def bitsTo (d c : Nat) : List Nat := (List.range c).filter d.testBit
theorem bitsTo_succ (d c : Nat) : bitsTo d (c + 1) = bitsTo d c ++ if d.testBit c then [c] else [] := by
  unfold bitsTo
  rw [List.range_succ, List.filter_append]
  congr 1
  cases h : d.testBit c <;> simp [h]
theorem bitsTo_all {d cn : Nat} (h : d < 2 ^ cn) (hcn : cn ≤ 32) : bitsTo d cn = bitsOf d := by
  unfold bitsTo bitsOf
  have e : List.range 32 = List.range cn ++ List.range' cn (32 - cn) := by
    rw [List.range_eq_range', List.range_eq_range']
    have := (List.range'_append_1 (s := 0) (m := cn) (n := 32 - cn)).symm
    rw [Nat.zero_add, show cn + (32 - cn) = 32 from by omega] at this
    exact this
  rw [e, List.filter_append]
  have z : (List.range' cn (32 - cn)).filter d.testBit = [] := by
    rw [List.filter_eq_nil_iff]
    intro i hi h2
    rw [List.mem_range'_1] at hi
    rw [Nat.testBit_lt_two_pow (Nat.lt_of_lt_of_le h (Nat.pow_le_pow_right (by omega) hi.1))] at h2
    cases h2
  rw [z, List.append_nil]
theorem runs_app (more : Bool) (s : List Nat × Nat × List Nat) (l r : List Nat) : runs more s (l ++ r) = runs more (runs more s l) r := by simp [runs]
theorem runs_to (more : Bool) (s : List Nat × Nat × List Nat) (d c : Nat) : runs more s (bitsTo d (c + 1)) = if d.testBit c then stp more (runs more s (bitsTo d c)) c else runs more s (bitsTo d c) := by
  rw [bitsTo_succ, runs_app]
  split <;> rfl
theorem bitsTo_len (d c : Nat) : (bitsTo d c).length ≤ c := by
  have := List.length_filter_le d.testBit (List.range c)
  simpa [bitsTo] using this
/-- where it stands is known, and the way's last one is its place -/
def Stands (s : List Nat × Nat × List Nat) : Prop := s.2.1 ∈ s.1
theorem Stands.stp (s : List Nat × Nat × List Nat) (more : Bool) (c : Nat) : Stands (Go.Proofs.YtclmmfkbkaldlaaDoor.stp more s c) := addm_mem _ _
theorem Stands.runs (more : Bool) : ∀ (cs : List Nat) (s : List Nat × Nat × List Nat), Stands s → Stands (Go.Proofs.YtclmmfkbkaldlaaDoor.runs more s cs)
  | [], _, h => h
  | c :: cs, s, _ => Stands.runs more cs (Go.Proofs.YtclmmfkbkaldlaaDoor.stp more s c) (Stands.stp s more c)
/-- what holds in the loops of the reference's Way -/
structure RI (B : Nat) (w : World) (g cn : Nat) (S : List Nat) (s : List Nat × Nat × List Nat) (v : Value) (S' : List Nat) (wr : World) : Prop where
  ref : RefA B wr g cn s.1 S'
  row : wr.ownsRow w.heap.size 3 1 v s.2.2.length (nats s.2.2)
  fr : Fr S w wr
  new : ∀ b ∈ S', b ∈ S ∨ w.heap.size ≤ b
  dis : ∀ b, v.ownBlock = some b → b ∉ S'
  stands : Stands s
theorem RI.step {B : Nat} {w wr w2 w3 : World} {g cn : Nat} {S S' S2 : List Nat} {s : List Nat × Nat × List Nat} {v : Value} {more : Bool} {c gg cap : Nat} {o : Obj} (h : RI B w g cn S s v S' wr)
    (hr : RefA B w2 g cn (stp more s c).1 S2) (hst : Stp S' S2 wr w2)
    (hown : w3.ownsRow w.heap.size 3 1 (.slice (some ⟨gg, 0, none⟩) (s.2.2.length + 1) cap) (s.2.2.length + 1) (nats s.2.2 ++ [.int .i64 ((addm s.1 (tgt more s.2.1 c)).idxOf (tgt more s.2.1 c) : Nat)]))
    (hgrow : (w2.alloc o).grownBy w3 v.ownBlock) (hat : v.ownBlock = some gg ∨ gg = w2.heap.size + 1) :
    RI B w g cn S (stp more s c) (.slice (some ⟨gg, 0, none⟩) (s.2.2.length + 1) cap) S2 w3 := by
  have hw2 := hst.1.size
  have hwr := h.fr.size
  have hv2 : ∀ b, v.ownBlock = some b → b ∉ S2 := fun b hb hm => (hst.2 b hm).elim (h.dis b hb) fun hge => by have := (row_lt h.row hb).1; omega
  have hf3 : Fr v.ownBlock.toList w2 w3 := ((Fr.refl _ w2).alloc o).grown hgrow fun k hk => .inl (by simp [hk])
  refine ⟨hr.fr hf3 fun b hb hm => hv2 b (by simpa using hm) hb, by simpa [stp, nats, ints] using hown, ?_, ?_, ?_, Stands.stp s more c⟩
  · exact (h.fr.step hst.1 fun x hx => h.new x hx).step hf3 fun x hx => .inr (row_lt h.row (by simpa using hx)).2
  · exact fun b hb => (hst.2 b hb).elim (h.new b) fun hge => .inr (by omega)
  · intro b hb hm
    obtain rfl : gg = b := by simpa [Value.ownBlock] using hb
    exact hat.elim (fun e => hv2 gg e hm) fun e => by have := (hr.lt gg hm).1; omega
theorem RI.fr0 {B : Nat} {w wr w2 : World} {g cn : Nat} {S S' : List Nat} {s : List Nat × Nat × List Nat} {v : Value} (h : RI B w g cn S s v S' wr) (hf : Fr [] wr w2) : RI B w g cn S s v S' w2 :=
  ⟨h.ref.fr0 hf, row_fr h.row hf (by simp), h.fr.trans (hf.any _), h.new, h.dis, h.stands⟩
theorem tmod_one (x c : Nat) : (((x : Int) / 2 ^ c).tmod 2 == 1) = x.testBit c := by
  rw [tmod_bit]; cases x.testBit c <;> rfl
/-- the phases of a way -/
def Pk (ms : List Nat) (i x y k : Nat) (s : List Nat × Nat × List Nat) : Prop :=
  (k = 0 ∧ s = (ms, x, [i])) ∨ (k = 1 ∧ s = runs false (ms, x, [i]) (bitsOf (x &&& (4294967295 - y)))) ∨ (k = 2 ∧ s = wayP ms i x y)
def RWayPost (B : Nat) (w : World) (g cn : Nat) (S : List Nat) (s : List Nat × Nat × List Nat) (e : Ending) (w' : World) : Prop :=
  ∃ v S', e = .returned (.tuple #[v, .int .i64 0]) ∧ RI B w g cn S s v S' w'
theorem rway_err {B : Nat} {w : World} {g cn : Nat} {ms S : List Nat} (h : RefA B w g cn ms S) (i j : Int) (hn : i < 0 ∨ (ms.length : Int) ≤ i ∨ j < 0 ∨ (ms.length : Int) ≤ j) (hl : ms.length ≤ 1000000) :
    Calls Tryd.prog 23 #[.pointer (some ⟨g, 0, none⟩), .int .i64 i, .int .i64 j] w fun e w' => e = .returned (.tuple #[.slice none 0 0, .int .i64 7]) ∧ w = w' := by
  obtain ⟨gL, cp, hg, hr, hc, hs, hBg, hpos, -⟩ := h.form
  have g1 := hg.at_ 1 (v := .slice (some ⟨gL, 0, none⟩) ms.length cp) rfl
  have lg := hg.lt
  clear h hg hr hs
  by_cases h1 : i < 0
  · go_enter Tryd.func23, Tryd.ntmps23
    go_wp2_with fail
    go_ret2
    exact ⟨rfl, rfl⟩
  by_cases h2 : (ms.length : Int) ≤ i
  · go_enter Tryd.func23, Tryd.ntmps23
    go_wp2_with fail
    go_ret2
    exact ⟨rfl, rfl⟩
  by_cases h3 : j < 0
  · go_enter Tryd.func23, Tryd.ntmps23
    go_wp2_with fail
    go_ret2
    exact ⟨rfl, rfl⟩
  have h4 : (ms.length : Int) ≤ j := by omega
  go_enter Tryd.func23, Tryd.ntmps23
  go_wp2_with fail
  go_ret2
  exact ⟨rfl, rfl⟩
set_option maxRecDepth 100000 in
set_option maxHeartbeats 4000000 in
theorem rway_ok {B : Nat} {w : World} {g cn : Nat} {ms S : List Nat} (h : RefA B w g cn ms S) (hB : B ≤ w.heap.size) {i j x y : Nat} (hx : ms[i]? = some x) (hy : ms[j]? = some y) (hnd : ms.Nodup) (hl : ms.length ≤ 100000) :
    Calls Tryd.prog 23 #[.pointer (some ⟨g, 0, none⟩), .int .i64 i, .int .i64 j] w (RWayPost B w g cn S (wayP ms i x y)) := by
  obtain ⟨gL, cp, hg, hr, hc16, hs, hBg, hpos, rfl⟩ := h.form
  have hxl := hs x (List.mem_of_getElem? hx)
  have hyl := hs y (List.mem_of_getElem? hy)
  have g0 := hg.at_ 0 (v := .int .i64 cn) rfl
  have g1 := hg.at_ 1 (v := .slice (some ⟨gL, 0, none⟩) ms.length cp) rfl
  have lg := hg.lt
  have k0 := row_cell hr (i := i) (u := .int .u32 x) (by simp [msks, hx])
  have lgL := (row_lt hr rfl).1
  have k1 := row_cell hr (i := j) (u := .int .u32 y) (by simp [msks, hy])
  have hi := (List.getElem?_eq_some_iff.1 hx).1
  have hj := (List.getElem?_eq_some_iff.1 hy).1
  have i0' : (0 : Int) ≤ (i : Int) := by omega
  have i1 : (i : Int) < (ms.length : Int) := by omega
  have j0 : (0 : Int) ≤ (j : Int) := by omega
  have j1 : (j : Int) < (ms.length : Int) := by omega
  have hix : ms.idxOf x = i := (idx_of hnd hx).2
  have H0 : Hid (RI B w g cn [g, gL] (ms, x, [i]) (.slice (some ⟨w.heap.size, 0, none⟩) 1 1) [g, gL] (w.alloc (.cells #[.int .i64 i] 3))) := hide ⟨h.fr0 ((Fr.refl _ _).alloc _), row_mk (Blk.new w _ _) (Nat.le_refl _) (Nat.le_refl _) (by simp [maxLen]) rfl rfl, (Fr.refl _ _).alloc _, fun b hb => .inl hb, fun b hb hm => by
    obtain rfl : w.heap.size = b := by simpa [Value.ownBlock] using hb
    have := (h.lt _ hm).1
    omega, List.mem_of_getElem? hx⟩
  have HH := hide (And.intro hxl (And.intro hyl (And.intro hix (And.intro hB (And.intro hc16 hl)))))
  obtain ⟨i0, hi0, hz0, hz1, hz2⟩ := info_parts infoInt
  clear h hg hr hs hx hy hxl hyl hix hnd hB
  go_enter Tryd.func23, Tryd.ntmps23
  go_wp2_with fail
  have X16 : x < 2 ^ 16 := Nat.lt_of_lt_of_le HH.out.1 (Nat.pow_le_pow_right (by omega) HH.out.2.2.2.2.1)
  have Y16 : y < 2 ^ 16 := Nat.lt_of_lt_of_le HH.out.2.1 (Nat.pow_le_pow_right (by omega) HH.out.2.2.2.2.1)
  have HB1 : Hid ((runs false (ms, x, [i]) (bitsOf (x &&& (4294967295 - y)))).1.length ≤ ms.length + 32 ∧ (runs false (ms, x, [i]) (bitsOf (x &&& (4294967295 - y)))).2.2.length ≤ 33) := hide (by
    obtain ⟨h1, h2⟩ := runs_len false (bitsOf (x &&& (4294967295 - y))) (ms, x, [i])
    have h3 := bitsOf_len (x &&& (4294967295 - y))
    simp at h1 h2
    omega)
  go_loopw [8, 11, 12] (fun s8 s11 s12 wr => ∃ (k : Nat) (s : List Nat × Nat × List Nat) (S' : List Nat), s12 = .int .i64 k ∧ s11 = .int .i64 (s.1.idxOf s.2.1 : Nat) ∧ RI B w g cn [g, gL] s s8 S' wr ∧ Pk ms i x y k s) (fun _ _ s12 _ => 2 - (intOf s12).toNat)
  case atStart => exact ⟨0, _, [g, gL], rfl, by rw [HH.out.2.2.1], H0.out, .inl ⟨rfl, rfl⟩⟩
  case round =>
    clear H0 g0 g1 lg k0 k1 lgL
    obtain ⟨k, s, S', rfl, rfl, hI, hP⟩ := hrel
    rcases hP with ⟨rfl, hs⟩ | ⟨rfl, hs⟩ | ⟨rfl, hs⟩
    · have hs0 : s = (ms, x, [i]) := hs
      clear hs
      subst hs0
      have hD : x &&& (4294967295 - y) < 2 ^ cn := andn_lt HH.out.1
      have HD := hide hD
      clear hD
      have HI := hide hI
      clear hI
      simp only [show ((0 : Nat) : Int) = 0 from rfl]
      go_wp2_with fail
      go_loopw [8, 11, 13] (fun s8 s11 s13 wr2 => ∃ (c : Nat) (S2 : List Nat), c ≤ cn ∧ s13 = .int .i64 c ∧ s11 = .int .i64 ((runs false ((ms, x, [i])) (bitsTo (x &&& (4294967295 - y)) c)).1.idxOf (runs false ((ms, x, [i])) (bitsTo (x &&& (4294967295 - y)) c)).2.1 : Nat) ∧ RI B w g cn [g, gL] (runs false ((ms, x, [i])) (bitsTo (x &&& (4294967295 - y)) c)) s8 S2 wr2) (fun _ _ s13 _ => cn - (intOf s13).toNat)
      case atStart => exact ⟨0, S', by omega, rfl, rfl, HI.out⟩
      case round =>
        clear HI
        obtain ⟨c, S2, hc, rfl, rfl, hI⟩ := hrel
        have g0 : wr.cell? ⟨g, 0, none⟩ = some (.int .i64 cn) := by obtain ⟨_, _, hg, _⟩ := hI.ref.form; exact hg.at_ 0 rfl
        have lg := (hI.ref.lt g (by obtain ⟨_, _, _, _, _, _, _, _, rfl⟩ := hI.ref.form; simp)).1
        by_cases hc1 : c < cn
        · have hstep := runs_to false ((ms, x, [i])) (x &&& (4294967295 - y)) c
          have hbit := andn_bit x y c X16 Y16
          obtain ⟨hl1, hl2⟩ := runs_len false (bitsTo (x &&& (4294967295 - y)) c) ((ms, x, [i]))
          have hl3 := bitsTo_len (x &&& (4294967295 - y)) c
          generalize runs false ((ms, x, [i])) (bitsTo (x &&& (4294967295 - y)) c) = s at *
          have hxb := tmod_one x c
          have hyb := tmod_one y c
          have HI := hide hI
          have HT := hide (fun more' => rturn_ok hI.ref (Nat.le_trans HH.out.2.2.2.1 hI.fr.size) ((In.refl s.1).get hI.stands) hc1 (by have := HH.out.2.2.2.2.2; have := HB1.out; simp at hl1; omega) more')
          have HL : Hid (s.1.length ≤ 101000 ∧ s.2.2.length ≤ 1000) := hide (by have := HH.out.2.2.2.2.2; have := HB1.out; simp at hl1 hl2; omega)
          have hBw : w.heap.size ≤ wr.heap.size := hI.fr.size
          clear hI hl1 hl2 hl3
          by_cases hcond : x.testBit c = true ∧ y.testBit c = false
          · obtain ⟨q1, q2⟩ := hcond
            rw [q1] at hxb
            rw [q2] at hyb
            rw [hbit, q1, q2] at hstep
            have Hstep := hide hstep
            clear hstep hbit q1 q2
            go_wp2_with fail
            refine (HT.out false).mono ?_
            rintro e w4 ⟨rfl, S4, hr, hst⟩
            have H4 := hide (And.intro hr (And.intro hst (row_fr HI.out.row hst.1 HI.out.dis)))
            have hw4 := hst.1.size
            have hidx : (addm s.1 (tgt false s.2.1 c)).idxOf (tgt false s.2.1 c) ≤ 101001 := by
              have h1 := List.idxOf_lt_length_of_mem (addm_mem s.1 (tgt false s.2.1 c))
              have h2 := addm_len s.1 (tgt false s.2.1 c)
              have h3 := HL.out.1
              omega
            have hll := HL.out.2
            clear hr hst HT
            go_wp2_with (at_builtin; refine wpList_append_lies _ rfl _ _ _ rfl w.heap.size 3 i0 _ 1 8 Tryd.underlying29 hi0 hz0 hz1 hz2 rfl (by omega) (u8) (s.2.2.length) (nats s.2.2) rfl ((H4.out.2.2.alloc _)) ⟨w4.heap.size, 0, none⟩ 1 1 [.int .i64 ((addm s.1 (tgt false s.2.1 c)).idxOf (tgt false s.2.1 c) : Nat)] rfl rfl (World.news_of_block (cs := #[.int .i64 ((addm s.1 (tgt false s.2.1 c)).idxOf (tgt false s.2.1 c) : Nat)]) (t := 3) (fr := (0, 0)) (Blk.new_at _ _ _ _ (by simp))) (by simp [Value.oneCell']) (by omega) (by unfold maxLen; omega) (by omega) (by simp; omega) (w4.heap.size + 1) (by simp) ?_; intro gg cap w3 hown3 hgrow hat hlt3)
            have Hn := hide (RI.step (more := false) (c := c) HI.out H4.out.1 H4.out.2.1 hown3 hgrow hat)
            clear hown3 hgrow hat
            go_roundw
            case rel => exact ⟨c + 1, S4, by omega, by go_num, by rw [Hstep.out]; rfl, by rw [Hstep.out]; exact Hn.out⟩
            case measure => simp [intOf]; omega
          · have hb2 : (x &&& (4294967295 - y)).testBit c = false := by
              rw [hbit]
              cases h1 : x.testBit c <;> cases h2 : y.testBit c <;> simp_all
            rw [hb2] at hstep
            have Hstep : Hid (runs false ((ms, x, [i])) (bitsTo (x &&& (4294967295 - y)) (c + 1)) = s) := hide (by simpa using hstep)
            clear hstep hbit hb2 HT
            cases q1 : x.testBit c <;> cases q2 : y.testBit c
            all_goals first | (exfalso; exact hcond ⟨q1, q2⟩) | skip
            all_goals
              rw [q1] at hxb
              rw [q2] at hyb
              clear q1 q2 hcond
              go_wp2_with fail
              go_roundw
              case rel => exact ⟨c + 1, S2, by omega, by go_num, by rw [Hstep.out], by rw [Hstep.out]; exact HI.out⟩
              case measure => simp [intOf]; omega
        · have hcn : c = cn := by omega
          subst hcn
          rw [bitsTo_all HD.out (by have := HH.out.2.2.2.2.1; omega)] at hI ⊢
          have HI := hide hI
          clear hI
          go_wp2_with fail
          go_roundw
          case rel => exact ⟨1, _, S2, rfl, rfl, HI.out, .inr (.inl ⟨rfl, rfl⟩)⟩
          case measure => simp [intOf]
    · have hs0 : s = runs false (ms, x, [i]) (bitsOf (x &&& (4294967295 - y))) := hs
      clear hs
      subst hs0
      have hD : y &&& (4294967295 - x) < 2 ^ cn := andn_lt HH.out.2.1
      have HD := hide hD
      clear hD
      have HI := hide hI
      clear hI
      simp only [show ((1 : Nat) : Int) = 1 from rfl]
      go_wp2_with fail
      go_loopw [8, 11, 13] (fun s8 s11 s13 wr2 => ∃ (c : Nat) (S2 : List Nat), c ≤ cn ∧ s13 = .int .i64 c ∧ s11 = .int .i64 ((runs true (runs false (ms, x, [i]) (bitsOf (x &&& (4294967295 - y)))) (bitsTo (y &&& (4294967295 - x)) c)).1.idxOf (runs true (runs false (ms, x, [i]) (bitsOf (x &&& (4294967295 - y)))) (bitsTo (y &&& (4294967295 - x)) c)).2.1 : Nat) ∧ RI B w g cn [g, gL] (runs true (runs false (ms, x, [i]) (bitsOf (x &&& (4294967295 - y)))) (bitsTo (y &&& (4294967295 - x)) c)) s8 S2 wr2) (fun _ _ s13 _ => cn - (intOf s13).toNat)
      case atStart => exact ⟨0, S', by omega, rfl, rfl, HI.out⟩
      case round =>
        clear HI
        obtain ⟨c, S2, hc, rfl, rfl, hI⟩ := hrel
        have g0 : wr.cell? ⟨g, 0, none⟩ = some (.int .i64 cn) := by obtain ⟨_, _, hg, _⟩ := hI.ref.form; exact hg.at_ 0 rfl
        have lg := (hI.ref.lt g (by obtain ⟨_, _, _, _, _, _, _, _, rfl⟩ := hI.ref.form; simp)).1
        by_cases hc1 : c < cn
        · have hstep := runs_to true (runs false (ms, x, [i]) (bitsOf (x &&& (4294967295 - y)))) (y &&& (4294967295 - x)) c
          have hbit := andn_bit y x c Y16 X16
          obtain ⟨hl1, hl2⟩ := runs_len true (bitsTo (y &&& (4294967295 - x)) c) (runs false (ms, x, [i]) (bitsOf (x &&& (4294967295 - y))))
          have hl3 := bitsTo_len (y &&& (4294967295 - x)) c
          generalize runs true (runs false (ms, x, [i]) (bitsOf (x &&& (4294967295 - y)))) (bitsTo (y &&& (4294967295 - x)) c) = s at *
          have hxb := tmod_one x c
          have hyb := tmod_one y c
          have HI := hide hI
          have HT := hide (fun more' => rturn_ok hI.ref (Nat.le_trans HH.out.2.2.2.1 hI.fr.size) ((In.refl s.1).get hI.stands) hc1 (by have := HH.out.2.2.2.2.2; have := HB1.out; skip; omega) more')
          have HL : Hid (s.1.length ≤ 101000 ∧ s.2.2.length ≤ 1000) := hide (by have := HH.out.2.2.2.2.2; have := HB1.out; skip; omega)
          have hBw : w.heap.size ≤ wr.heap.size := hI.fr.size
          clear hI hl1 hl2 hl3
          by_cases hcond : x.testBit c = false ∧ y.testBit c = true
          · obtain ⟨q1, q2⟩ := hcond
            rw [q1] at hxb
            rw [q2] at hyb
            rw [hbit, q1, q2] at hstep
            have Hstep := hide hstep
            clear hstep hbit q1 q2
            go_wp2_with fail
            refine (HT.out true).mono ?_
            rintro e w4 ⟨rfl, S4, hr, hst⟩
            have H4 := hide (And.intro hr (And.intro hst (row_fr HI.out.row hst.1 HI.out.dis)))
            have hw4 := hst.1.size
            have hidx : (addm s.1 (tgt true s.2.1 c)).idxOf (tgt true s.2.1 c) ≤ 101001 := by
              have h1 := List.idxOf_lt_length_of_mem (addm_mem s.1 (tgt true s.2.1 c))
              have h2 := addm_len s.1 (tgt true s.2.1 c)
              have h3 := HL.out.1
              omega
            have hll := HL.out.2
            clear hr hst HT
            go_wp2_with (at_builtin; refine wpList_append_lies _ rfl _ _ _ rfl w.heap.size 3 i0 _ 1 8 Tryd.underlying29 hi0 hz0 hz1 hz2 rfl (by omega) (u8) (s.2.2.length) (nats s.2.2) rfl ((H4.out.2.2.alloc _)) ⟨w4.heap.size, 0, none⟩ 1 1 [.int .i64 ((addm s.1 (tgt true s.2.1 c)).idxOf (tgt true s.2.1 c) : Nat)] rfl rfl (World.news_of_block (cs := #[.int .i64 ((addm s.1 (tgt true s.2.1 c)).idxOf (tgt true s.2.1 c) : Nat)]) (t := 3) (fr := (0, 0)) (Blk.new_at _ _ _ _ (by simp))) (by simp [Value.oneCell']) (by omega) (by unfold maxLen; omega) (by omega) (by simp; omega) (w4.heap.size + 1) (by simp) ?_; intro gg cap w3 hown3 hgrow hat hlt3)
            have Hn := hide (RI.step (more := true) (c := c) HI.out H4.out.1 H4.out.2.1 hown3 hgrow hat)
            clear hown3 hgrow hat
            go_roundw
            case rel => exact ⟨c + 1, S4, by omega, by go_num, by rw [Hstep.out]; rfl, by rw [Hstep.out]; exact Hn.out⟩
            case measure => simp [intOf]; omega
          · have hb2 : (y &&& (4294967295 - x)).testBit c = false := by
              rw [hbit]
              cases h1 : x.testBit c <;> cases h2 : y.testBit c <;> simp_all
            rw [hb2] at hstep
            have Hstep : Hid (runs true (runs false (ms, x, [i]) (bitsOf (x &&& (4294967295 - y)))) (bitsTo (y &&& (4294967295 - x)) (c + 1)) = s) := hide (by simpa using hstep)
            clear hstep hbit hb2 HT
            cases q1 : x.testBit c <;> cases q2 : y.testBit c
            all_goals first | (exfalso; exact hcond ⟨q1, q2⟩) | skip
            all_goals
              rw [q1] at hxb
              rw [q2] at hyb
              clear q1 q2 hcond
              go_wp2_with fail
              go_roundw
              case rel => exact ⟨c + 1, S2, by omega, by go_num, by rw [Hstep.out], by rw [Hstep.out]; exact HI.out⟩
              case measure => simp [intOf]; omega
        · have hcn : c = cn := by omega
          subst hcn
          rw [bitsTo_all HD.out (by have := HH.out.2.2.2.2.1; omega)] at hI ⊢
          have HI := hide hI
          clear hI
          go_wp2_with fail
          go_roundw
          case rel => exact ⟨2, _, S2, rfl, rfl, HI.out, .inr (.inr ⟨rfl, rfl⟩)⟩
          case measure => simp [intOf]
    · subst hs
      have HI := hide hI
      clear hI
      go_wp2_with fail
      go_ret2
      exact ⟨_, S', rfl, HI.out⟩
end Go.Proofs.YtclmmfkbkaldlaaDoor

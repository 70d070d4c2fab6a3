/- AtlasOnce: the walk of the law. -/
import Derived.Test.YtclmmfkbkaldlaaDoorSteps
import Derived.Test.YtclmmfkbkaldlaaDoorMaskArg
namespace Go.Proofs.YtclmmfkbkaldlaaDoor
open Go.RowKit

/-- the sets behind some calls of At -/
def adds (ms : List Nat) (q : List Nat) : List Nat := q.foldl addm ms
theorem adds_snoc (ms : List Nat) {q : List Nat} {i s : Nat} (h : q[i]? = some s) : adds ms (q.take (i + 1)) = addm (adds ms (q.take i)) s := by
  have hlt := (List.getElem?_eq_some_iff.1 h).1
  rw [List.take_succ_eq_append_getElem hlt]
  have e : q[i] = s := by simpa [hlt] using h
  simp [adds, e]
theorem adds_len (ms : List Nat) : ∀ (q : List Nat), (adds ms q).length ≤ ms.length + q.length := by
  intro q
  induction q generalizing ms with
  | nil => simp [adds]
  | cons x q ih =>
    have := ih (addm ms x)
    have h2 := addm_len ms x
    simp only [adds, List.foldl_cons, List.length_cons] at this ⊢
    omega
theorem adds_in (ms : List Nat) : ∀ (q : List Nat), In ms (adds ms q) := by
  intro q
  induction q generalizing ms with
  | nil => exact In.refl _
  | cons x q ih => exact (In.addm ms x).trans (ih (addm ms x))
theorem adds_app (ms q r : List Nat) : adds ms (q ++ r) = adds (adds ms q) r := by simp [adds]
theorem adds_take_in (ms : List Nat) (q : List Nat) (i : Nat) : In (adds ms (q.take i)) (adds ms q) := by
  have e : q = q.take i ++ q.drop i := (List.take_append_drop i q).symm
  have := adds_in (adds ms (q.take i)) (q.drop i)
  rwa [← adds_app, List.take_append_drop] at this
theorem adds_mem (ms : List Nat) {q : List Nat} {x : Nat} (h : x ∈ q) : x ∈ adds ms q := by
  induction q generalizing ms with
  | nil => cases h
  | cons y q ih =>
    rcases List.mem_cons.1 h with rfl | h
    · exact (adds_in (addm ms x) q).mem (addm_mem _ _)
    · exact ih (addm ms y) h
theorem adds_mem0 {ms : List Nat} (q : List Nat) {x : Nat} (h : x ∈ ms) : x ∈ adds ms q := (adds_in ms q).mem h
theorem idx_inj {F : List Nat} {x y : Nat} (hx : x ∈ F) (hy : y ∈ F) : F.idxOf x = F.idxOf y ↔ x = y := by
  constructor
  · intro h
    have h1 := (In.refl F).get hx
    have h2 := (In.refl F).get hy
    rw [h] at h1
    exact Option.some.inj (h1.symm.trans h2)
  · rintro rfl; rfl
def low (x : Nat) : Nat := x &&& 65535
theorem low_lt (x : Nat) : low x < 2 ^ 16 := by unfold low; rw [and_ffff]; exact Nat.mod_lt _ (by omega)
theorem low_bits {x : Nat} (h : x < 4294967296) : bits BinOp.and IntKind.u32 (x : Int) 65535 = ((low x : Nat) : Int) := u32_and_nat x 65535 h (by omega)
theorem low_get {l : List Nat} {i x : Nat} (h : l[i]? = some x) : (l.map low)[i]? = some (low x) := by simp [h]

theorem AI.go2 {K : List Nat} {w wr w' : World} {ad : Nat → Addr} {g cn : Nat} {ms S T : List Nat} (h : AI K w ad g cn ms S [] wr) (hf : Fr T wr w') (hT : ∀ b ∈ T, w.heap.size ≤ b) (hd : ∀ b ∈ S, b ∉ T) : AI K w ad g cn ms S [] w' :=
  ⟨h.atl.fr hf hd, h.cx.go2 hf hT hd, h.tab⟩
/-- behind the first loop's rounds -/
structure OI (K : List Nat) (w : World) (ad : Nat → Addr) (g : Nat) (q F : List Nat) (i : Nat) (v : Value) (S : List Nat) (wr : World) : Prop where
  ai : AI K w ad g 16 (adds [0] (q.take i)) S [] wr
  row : wr.ownsRow w.heap.size 3 1 v i (nats ((q.take i).map F.idxOf))
  dis : ∀ b, v.ownBlock = some b → b ∉ S
theorem OI.fr0 {K : List Nat} {w wr w' : World} {ad : Nat → Addr} {g i : Nat} {q F : List Nat} {v : Value} {S : List Nat} (h : OI K w ad g q F i v S wr) (hf : Fr [] wr w') : OI K w ad g q F i v S w' := ⟨h.ai.fr0 hf, row_fr h.row hf (by simp), h.dis⟩
theorem OI.step {K : List Nat} {w wr w2 w3 : World} {ad : Nat → Addr} {g i s gg cap : Nat} {q F : List Nat} {v : Value} {S S2 : List Nat} {o : Obj} (h : OI K w ad g q F i v S wr) (hs : q[i]? = some s)
    (h2 : AI K w ad g 16 (addm (adds [0] (q.take i)) s) S2 [] w2) (hrow2 : w2.ownsRow w.heap.size 3 1 v i (nats ((q.take i).map F.idxOf))) (hd2 : ∀ b, v.ownBlock = some b → b ∉ S2)
    (hown : w3.ownsRow w.heap.size 3 1 (.slice (some ⟨gg, 0, none⟩) (i + 1) cap) (i + 1) (nats ((q.take i).map F.idxOf) ++ [.int .i64 (F.idxOf s : Nat)]))
    (hgrow : (w2.alloc o).grownBy w3 v.ownBlock) (hat : v.ownBlock = some gg ∨ gg = w2.heap.size + 1) : OI K w ad g q F (i + 1) (.slice (some ⟨gg, 0, none⟩) (i + 1) cap) S2 w3 := by
  have hlt := (List.getElem?_eq_some_iff.1 hs).1
  have e : q[i] = s := by simpa [hlt] using hs
  have hf3 : Fr v.ownBlock.toList w2 w3 := ((Fr.refl _ w2).alloc o).grown hgrow fun k hk => .inl (by simp [hk])
  refine ⟨?_, ?_, ?_⟩
  · rw [adds_snoc _ hs]
    exact h2.go2 hf3 (fun b hb => (row_lt hrow2 (by simpa using hb)).2) fun b hb hm => hd2 b (by simpa using hm) hb
  · rw [List.take_succ_eq_append_getElem hlt, e]
    simpa [nats, ints] using hown
  · intro b hb hm
    obtain rfl : gg = b := by simpa [Value.ownBlock] using hb
    exact hat.elim (fun e => hd2 gg e hm) fun e => by have := (h2.atl.lt gg hm).1; omega

set_option maxRecDepth 100000 in
set_option maxHeartbeats 4000000 in
theorem aonce_walk {K : List Nat} {w : World} {ad : Nat → Addr} (hs : Sents K w.heap.size w ad) (h1 : 1 ∈ K) (h7 : 7 ∈ K) (hT : Tab w) (A : Option Addr) (n cap : Nat) (l : List Nat) (hl : l.length = n) (hn : n ≤ maxLen) (hlt : ∀ m ∈ l, m < 4294967296)
    (hr : Reads w w.heap.size 1 A n (l.flatMap encM)) :
    Calls Tryd.prog 3 #[.slice A n cap] w fun e w' => e = .returned (.bool true) ∧ Below w.heap.size w w' := by
  unfold maxLen at hn
  have C := hide (Cx.start hs)
  have HT := hide hT
  have HR := hide (And.intro hr (And.intro hl hlt))
  clear hs hT hr hl hlt
  go_enter Tryd.func3, Tryd.ntmps3
  go_wp2_with fail
  refine (awake_calls C.out.sents h1 h7 HT.out).mono ?_
  rintro e w1 ⟨rfl, hf⟩
  have C1 := hide (C.out.fr0 hf)
  clear hf C
  go_wp2_with fail
  refine (new_ok C1.out.leW 16 (by omega)).mono ?_
  rintro e w2 ⟨g, S1, rfl, hr, hf, hn⟩
  have A1 : Hid (AI K w ad g 16 [0] S1 [] w2) := hide ⟨hr, by simpa using C1.out.obj hf hn fun b hb => (hr.lt b hb).1, HT.out⟩
  clear hr hf hn C1 HT
  by_cases hn100 : 100 < n
  · go_wp2_with fail
    go_ret
    exact ⟨rfl, A1.out.below⟩
  obtain ⟨q, hq⟩ : ∃ q, q = l.map low := ⟨_, rfl⟩
  obtain ⟨F, hF⟩ : ∃ F, F = adds [0] q := ⟨_, rfl⟩
  have Hq := hide (And.intro hq hF)
  clear hq hF
  go_wp2_with fail
  have H0 : Hid (OI K w ad g q F 0 (.slice (some ⟨w2.heap.size, 0, none⟩) 0 0) S1 (w2.alloc (.cells #[] 3))) := hide ⟨A1.out.fr0 ((Fr.refl _ _).alloc _), row_mk (Blk.new w2 _ _) A1.out.cx.fr.size (Nat.le_refl _) (by simp [maxLen]) rfl rfl, fun b hb hm => by
    obtain rfl : w2.heap.size = b := by simpa [Value.ownBlock] using hb
    have := (A1.out.atl.lt _ hm).1; omega⟩
  obtain ⟨i0, hi0, hz0, hz1, hz2⟩ := info_parts infoInt
  go_loopw [5, 6] (fun s5 s6 wr => ∃ (i : Nat) (S : List Nat), i ≤ n ∧ s6 = .int .i64 i ∧ OI K w ad g q F i s5 S wr) (fun _ s6 _ => n - (intOf s6).toNat)
  case atStart => exact ⟨0, S1, by omega, rfl, H0.out⟩
  case round =>
    clear H0 A1
    obtain ⟨i, S, hi, rfl, hI⟩ := hrel
    have HI := hide hI
    clear hI
    by_cases hi1 : i < n
    · obtain ⟨x, hx⟩ : ∃ x, l[i]? = some x := ⟨l[i]'(by have := HR.out.2.1; omega), by simp⟩
      obtain ⟨bA, oA, rfl, hbA, hcA⟩ := HR.out.1.at_ encM_len hx HR.out.2.1
      have hx32 := HR.out.2.2 x (List.mem_of_getElem? hx)
      have a0 := (HI.out.ai.below.cell (p := ⟨bA, oA + (i * 1 + 0), none⟩) hbA).trans (hcA 0 (.int .u32 x) rfl)
      rw [Nat.mul_one, Nat.add_zero] at a0
      have n0 : (0 : Int) ≤ (i : Int) := by omega
      have n1 : (i : Int) < (n : Int) := by omega
      have hand := low_bits hx32
      have hqi : q[i]? = some (low x) := by rw [Hq.out.1]; exact low_get hx
      have hin : In (addm (adds [0] (q.take i)) (low x)) F := by rw [← adds_snoc _ hqi, Hq.out.2]; exact adds_take_in _ _ _
      have hlen : (adds [0] (q.take i)).length ≤ 1000000 := by
        have h1 := adds_len [0] (q.take i)
        have h2 := List.length_take_le i q
        simp at h1
        omega
      have hll : F.length ≤ 1000 := by
        have h1 := adds_len [0] q
        have h2 := congrArg List.length Hq.out.1
        rw [List.length_map, HR.out.2.1] at h2
        rw [Hq.out.2]
        simp at h1
        omega
      have HQ := hide (at_step HI.out.ai hin (low_lt x) hlen)
      have Hqi := hide (And.intro hqi (List.idxOf_lt_length_of_mem (hin.mem (addm_mem _ _))))
      have hbw := HI.out.ai.cx.leW
      clear hx hx32 hcA hqi hin hlen hbA
      go_wp2_with fail
      refine HQ.out.mono ?_
      rintro e w4 ⟨rfl, S2, hA, hst⟩
      have H4 := hide (And.intro hA (And.intro (row_fr HI.out.row hst.1 HI.out.dis) (fun b hb hm => (hst.2 b hm).elim (HI.out.dis b hb) fun hge => by have := (row_lt HI.out.row hb).1; omega : ∀ b, u5.ownBlock = some b → b ∉ S2)))
      have hbw4 : w.heap.size ≤ w4.heap.size := hA.cx.leW
      have hidx : F.idxOf (low x) < 1001 := by have := Hqi.out.2; omega
      clear hA hst HQ
      go_wp2_with (at_builtin; refine wpList_append_lies _ rfl _ _ _ rfl w.heap.size 3 i0 _ 1 8 Tryd.underlying29 hi0 hz0 hz1 hz2 rfl (by omega) (u5) (i) (nats ((q.take i).map F.idxOf)) rfl ((H4.out.2.1.alloc _)) ⟨w4.heap.size, 0, none⟩ 1 1 [.int .i64 (F.idxOf (low x) : Nat)] rfl rfl (World.news_of_block (cs := #[.int .i64 (F.idxOf (low x) : Nat)]) (t := 3) (fr := (0, 0)) (Blk.new_at _ _ _ _ (by simp))) (by simp [Value.oneCell']) (by omega) (by unfold maxLen; omega) (by omega) (by simp; omega) (w4.heap.size + 1) (by simp) ?_; intro gg cap w3 hown3 hgrow hat hlt3)
      have Hn := hide (OI.step HI.out Hqi.out.1 H4.out.1 H4.out.2.1 H4.out.2.2 hown3 hgrow hat)
      clear hown3 hgrow hat
      go_roundw
      case rel => exact ⟨i + 1, S2, by omega, by go_num, Hn.out⟩
      case measure => simp [intOf]; omega
    · have hin : i = n := by omega
      subst hin
      clear hi1 hi
      obtain ⟨A5, c5, rfl⟩ : ∃ A c, u5 = .slice A i c := by
        rcases row_form HI.out.row with ⟨rfl, h0, _⟩ | ⟨gp, cp, rfl, _⟩
        · rw [h0]; exact ⟨_, _, rfl⟩
        · exact ⟨_, _, rfl⟩
      go_wp2_with fail
      go_loopw [9] (fun s9 wr2 => ∃ j : Nat, j ≤ i ∧ s9 = .int .i64 j ∧ OI K w ad g q F i (.slice A5 i c5) S wr2) (fun s9 _ => i - (intOf s9).toNat)
      case atStart => exact ⟨0, by omega, rfl, HI.out⟩
      case round =>
        clear HI
        obtain ⟨j, hj, rfl, hI⟩ := hrel
        have HI := hide hI
        clear hI
        by_cases hj1 : j < i
        · have hqn : q.length = i := by rw [Hq.out.1, List.length_map, HR.out.2.1]
          have hall : adds [0] (q.take i) = F := by rw [Hq.out.2, ← hqn, List.take_length]
          obtain ⟨x, hx⟩ : ∃ x, l[j]? = some x := ⟨l[j]'(by have := HR.out.2.1; omega), by simp⟩
          obtain ⟨bA, oA, rfl, hbA, hcA⟩ := HR.out.1.at_ encM_len hx HR.out.2.1
          have hx32 := HR.out.2.2 x (List.mem_of_getElem? hx)
          have a0 := (HI.out.ai.below.cell (p := ⟨bA, oA + (j * 1 + 0), none⟩) hbA).trans (hcA 0 (.int .u32 x) rfl)
          rw [Nat.mul_one, Nat.add_zero] at a0
          have hand := low_bits hx32
          have hqj : q[j]? = some (low x) := by rw [Hq.out.1]; exact low_get hx
          obtain ⟨g5, rfl⟩ : ∃ gp, A5 = some ⟨gp, 0, none⟩ := by
            rcases row_form HI.out.row with ⟨_, h0, _⟩ | ⟨gp, cp, h0, _⟩
            · omega
            · injection h0 with h0; exact ⟨_, h0⟩
          have hnd : ∀ (k s : Nat), q[k]? = some s → (nats ((q.take i).map F.idxOf))[k]? = some (.int .i64 (F.idxOf s : Nat)) := fun k s hk => by
            rw [← hqn, List.take_length]
            simp [nats, ints, hk]
          have c0 := row_cell HI.out.row (hnd j _ hqj)
          have hm : low x ∈ F := by rw [Hq.out.2]; exact adds_mem _ (List.mem_of_getElem? hqj)
          have HM := hide (mask_step (F := F) HI.out.ai (x := low x) (by rw [hall]; exact In.refl _) (by rw [hall]; exact hm) (by
            have h1 := adds_len [0] (q.take i)
            have h2 := List.length_take_le i q
            simp at h1
            omega))
          have n0 : (0 : Int) ≤ (j : Int) := by omega
          have n1 : (j : Int) < (i : Int) := by omega
          have HX := hide (And.intro hx (And.intro hx32 (And.intro hqj (And.intro hm (And.intro hnd hbA)))))
          clear hx hx32 hcA hqj hnd hm hbA hqn hall
          go_wp2_with fail
          refine HM.out.mono ?_
          rintro e w' ⟨rfl, rfl⟩
          go_wp2_with fail
          go_loopw [12] (fun s12 wr3 => ∃ k : Nat, k ≤ j ∧ s12 = .int .i64 k ∧ OI K w ad g q F i (.slice (some ⟨g5, 0, none⟩) i c5) S wr3) (fun s12 _ => j - (intOf s12).toNat)
          case atStart => exact ⟨0, by omega, rfl, HI.out⟩
          case round =>
            clear HI a0 c0 HM
            obtain ⟨k, hk, rfl, hI⟩ := hrel
            have HI := hide hI
            clear hI
            by_cases hk1 : k < j
            · obtain ⟨y, hy⟩ : ∃ y, l[k]? = some y := ⟨l[k]'(by have := HR.out.2.1; omega), by simp⟩
              have hy32 := HR.out.2.2 y (List.mem_of_getElem? hy)
              obtain ⟨bA', oA', e', -, hcA⟩ := HR.out.1.at_ encM_len HX.out.1 HR.out.2.1
              injection e' with e'; injection e' with e1 e2
              subst e1; subst e2
              have a0 := (HI.out.ai.below.cell (p := ⟨bA, oA + (j * 1 + 0), none⟩) HX.out.2.2.2.2.2).trans (hcA 0 (.int .u32 x) rfl)
              obtain ⟨bA', oA', e', -, hcB⟩ := HR.out.1.at_ encM_len hy HR.out.2.1
              injection e' with e'; injection e' with e1 e2
              subst e1; subst e2
              have b0 := (HI.out.ai.below.cell (p := ⟨bA, oA + (k * 1 + 0), none⟩) HX.out.2.2.2.2.2).trans (hcB 0 (.int .u32 y) rfl)
              rw [Nat.mul_one, Nat.add_zero] at a0 b0
              have hqk : q[k]? = some (low y) := by rw [Hq.out.1]; exact low_get hy
              have c0 := row_cell HI.out.row (HX.out.2.2.2.2.1 j _ HX.out.2.2.1)
              have d0 := row_cell HI.out.row (HX.out.2.2.2.2.1 k _ hqk)
              have handy := low_bits hy32
              have hmy : low y ∈ F := by rw [Hq.out.2]; exact adds_mem _ (List.mem_of_getElem? hqk)
              have k0 : (0 : Int) ≤ (k : Int) := by omega
              have k1 : (k : Int) < (i : Int) := by omega
              have hiff := idx_inj HX.out.2.2.2.1 hmy
              by_cases he : low x = low y
              · rw [he] at c0 hand
                clear hiff he hy hy32 hcA hcB hqk hmy
                go_wp2_with fail
                go_quiet (fail)
                go_wp2_with fail
                go_roundw
                case rel => exact ⟨k + 1, by omega, by go_num, HI.out.fr0 ((Fr.refl [] _).drewN _)⟩
                case measure => simp [intOf]; omega
              · have f1 : (((F.idxOf (low x) : Nat) : Int) == ((F.idxOf (low y) : Nat) : Int)) = false := by
                  have : F.idxOf (low x) ≠ F.idxOf (low y) := fun e => he (hiff.1 e)
                  simp only [beq_eq_false_iff_ne, ne_eq]; omega
                have f2 : (((low x : Nat) : Int) == ((low y : Nat) : Int)) = false := by simp only [beq_eq_false_iff_ne, ne_eq]; omega
                clear hiff he hy hy32 hcA hcB hqk hmy
                go_wp2_with fail
                go_quiet (fail)
                go_wp2_with fail
                go_roundw
                case rel => exact ⟨k + 1, by omega, by go_num, HI.out.fr0 ((Fr.refl [] _).drewN _)⟩
                case measure => simp [intOf]; omega
            · go_wp2_with fail
              go_roundw
              case rel => exact ⟨j + 1, by omega, by go_num, HI.out⟩
              case measure => simp [intOf]; omega
        · have hlen : (adds [0] (q.take i)).length ≤ i + 1 := by
            have h1 := adds_len [0] (q.take i)
            have h2 := List.length_take_le i q
            simp at h1
            omega
          go_wp2_with fail
          refine (len_calls HI.out.ai.atl).mono ?_
          rintro e w' ⟨rfl, rfl⟩
          go_wp2_with fail
          go_ret
          exact ⟨ret_eq (by simp; omega), HI.out.ai.below⟩
end Go.Proofs.YtclmmfkbkaldlaaDoor

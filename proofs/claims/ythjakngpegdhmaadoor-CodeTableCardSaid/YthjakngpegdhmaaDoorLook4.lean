/- instruction of package code by contract. -/
import Derived.Test.YthjakngpegdhmaaDoorLook3
namespace Go.Proofs.YthjakngpegdhmaaDoor
open Go.RowKit

def insB (cs : List (Int × Bool)) (nr n : Nat) (x : Ins) : Bool := isOp x.op && opndB cs nr n x && cellB cs x
theorem args2_a {cs : List (Int × Bool)} {nr n : Nat} {x : Ins} (ha : ¬ (rowOf x.op).a < 2) (ho : opndB cs nr n x = true) : 0 ≤ x.a ∧ x.a < cs.length := by
  have hop : x.op = 22 ∨ x.op = 23 := by
    unfold rowOf at ha
    split at ha
    · rename_i h
      obtain ⟨h0, h1⟩ := h
      have hk : ∃ k : Nat, x.op = k ∧ k < 36 := ⟨x.op.toNat, by omega, by omega⟩
      obtain ⟨k, e, hk⟩ := hk
      rw [e] at ha ⊢
      rw [Int.toNat_natCast] at ha
      have key : ∀ k, k < 36 → ¬ (rowsL.getD k zR).a < 2 → k = 22 ∨ k = 23 := by decide
      rcases key k hk ha with rfl | rfl
      · exact .inl rfl
      · exact .inr rfl
    · exact absurd (by decide) ha
  have hc : ∀ r, compB cs x.a r = true → 0 ≤ x.a ∧ x.a < cs.length := by
    intro r h
    unfold compB at h
    rw [Bool.and_eq_true, decide_eq_true_eq] at h
    refine ⟨h.1, ?_⟩
    by_cases hlt : x.a.toNat < cs.length
    · omega
    · rw [List.getElem?_eq_none (by omega)] at h; simp at h
  rcases hop with e | e
  · exact hc true (by simpa [opndB, e] using ho)
  · exact hc false (by simpa [opndB, e] using ho)
def InsPost (B : Nat) (w : World) (g : Nat) (s0 s1 : Value) (n : Nat) (bs S : List Nat) (ok : Bool) (e : Ending) (w' : World) : Prop :=
  e = .returned (.tuple #[]) ∧ ∃ bs' S', LookR B w' g [s0, s1] n bs' S' ∧ Stp S S' w w' ∧ (ok = true → bs' = bs) ∧ (ok = false → bs' ≠ []) ∧ bs.length ≤ bs'.length ∧ bs'.length ≤ bs.length + 2
theorem LookR.fr0 {B : Nat} {w w' : World} {g : Nat} {sc : List Value} {n : Nat} {bs S : List Nat} (h : LookR B w g sc n bs S) (hf : Fr [] w w') : LookR B w' g sc n bs S := by
  obtain ⟨vE, hg, hs, hE, hB, rfl⟩ := h
  exact ⟨vE, hg.fr0 hf, hs, row_fr hE hf (by simp), hB, rfl⟩
theorem LookR.blk4 {B : Nat} {w : World} {g : Nat} {s0 s1 : Value} {n : Nat} {bs S : List Nat} (h : LookR B w g [s0, s1] n bs S) : ∃ vE, Blk w g 70 #[s0, s1, .int .i64 n, vE] := by
  obtain ⟨vE, hg, -⟩ := h
  exact ⟨vE, hg⟩
theorem LookR.ge {B : Nat} {w : World} {g : Nat} {sc : List Value} {n : Nat} {bs S : List Nat} (h : LookR B w g sc n bs S) : ∀ b ∈ S, B ≤ b ∧ b < w.heap.size := by
  obtain ⟨vE, hg, hs, hE, hB, rfl⟩ := h
  intro b hb
  simp only [List.mem_cons, Option.mem_toList] at hb
  rcases hb with rfl | hb
  · exact ⟨hB, hg.lt⟩
  · exact ⟨(row_lt hE hb).2, (row_lt hE hb).1⟩
set_option maxRecDepth 100000 in
set_option maxHeartbeats 8000000 in
theorem instruction_calls {K : List Nat} {B : Nat} {ad : Nat → Addr} {w : World} {g : Nat} {A1 : Option Addr} {c1 nr : Nat} {s0 : Value} {n : Nat} {cs : List (Int × Bool)} {bs S : List Nat} (hs : Sents K B w ad) (hK1 : 1 ∈ K) (hK13 : 13 ∈ K) (hK14 : 14 ∈ K)
    (hL : LookR B w g [s0, .slice A1 nr c1] n bs S) (hc : SchR B w s0 cs) (hT : RowsT w) (hTB : 1 < B) (hl : cs.length ≤ 1000000) (hnr : nr ≤ 1000000) (hbl : bs.length ≤ 10000) {i : Nat} (hi : i < 100) (x : Ins) :
    Calls Tryd.prog 22 #[.pointer (some ⟨g, 0, none⟩), .int .i64 i, .agg #[.int .i64 x.op, .int .i64 x.a, .int .i64 x.b]] w (InsPost B w g s0 (.slice A1 nr c1) n bs S (insB cs nr n x)) := by
  have hx : x = ⟨x.op, x.a, x.b⟩ := rfl
  have hi0 : insB cs nr n x = (isOp x.op && opndB cs nr n x && cellB cs x) := rfl
  have ha2 : ¬ (rowOf x.op).a < 2 → opndB cs nr n x = true → 0 ≤ x.a ∧ x.a < cs.length := fun h => args2_a h
  have HO := hide (of_calls (w := w.alloc (.cells #[.int .i64 x.op, .int .i64 x.a, .int .i64 x.b] 50)) (hT.fr0 ((Fr.refl _ _).alloc _)) x.op)
  have hle := hs.le
  have H0 := hide (And.intro hs (And.intro hL (And.intro hc hT)))
  have HK := hide (And.intro hK1 (And.intro hK13 hK14))
  rw [hi0]
  clear hs hL hc hT hx hi0 hK1 hK13 hK14
  generalize hr : rowOf x.op = r at *
  have Hr := hide hr
  clear hr
  obtain ⟨rw_, ra, rt, rl⟩ := r
  simp only [encR] at HO
  simp only at ha2
  have Ha2 := hide ha2
  clear ha2
  have HX : Hid (∀ W, LookR B W g [s0, .slice A1 nr c1] n bs S → Fr [] w W → ∀ (str : ByteArray) (a : Addr) (t : TypeId), Calls Tryd.prog 29 #[.pointer (some ⟨g, 0, none⟩), .int .i64 i, .string str, .iface t (.pointer (some a))] W fun e w' => e = .returned (.tuple #[]) ∧ ∃ b S', LookR B w' g [s0, .slice A1 nr c1] n (bs ++ [b]) S' ∧ Stp S S' w w' ∧ Fr S W w') := hide fun W hW hf str a t => (note_calls hW hi (by omega) str t a).mono fun e w' h => by
    obtain ⟨h1, b, S', h2, h3⟩ := h
    exact ⟨h1, b, S', h2, Stp.trans ⟨hf.any S, fun b hb => .inl hb⟩ h3, h3.fr⟩
  go_enter Tryd.func22, Tryd.ntmps22
  go_wp2_with fail
  refine HO.out.mono ?_
  rintro e w2 ⟨rfl, hf⟩
  have hf2 : Fr [] w w2 := ((Fr.refl [] w).alloc _).trans hf
  have hbI := (Blk.new w 50 #[.int .i64 x.op, .int .i64 x.a, .int .i64 x.b]).fr0 hf
  have HI := hide hbI
  have Hf2 := hide hf2
  clear hf hf2 hbI
  cases hop : isOp x.op
  · go_upto_region 2 with (fail)
    have hf3 := Hf2.out.alloc (.cells #[.string ⟨rw_.toArray⟩, .int .i64 ra, .int .i64 rt, .int .i64 rl] 63)
    have hs3 := H0.out.1.fr0 hf3
    have e14 := hs3.cell 14 HK.out.2.2
    have l14 := Nat.lt_of_lt_of_le (hs3.glob 14 HK.out.2.2) hs3.le
    have HL3 := hide (H0.out.2.1.fr0 hf3)
    have Hf3 := hide hf3
    clear hs3 hf3
    generalize World.alloc w2 _ = w3 at *
    change w3.cell? ⟨3, 0, none⟩ = some (sv (ad 14)) at e14
    change 3 < w3.heap.size at l14
    go_wp2_with fail
    refine (HX.out _ HL3.out Hf3.out _ _ _).mono ?_
    rintro e w4 ⟨rfl, b, S', hL4, hS4, -⟩
    have HE : Hid (InsPost B w g s0 (.slice A1 nr c1) n bs S (isOp x.op && opndB cs nr n x && cellB cs x) (.returned (.tuple #[])) w4) := hide ⟨rfl, bs ++ [b], S', hL4, hS4, (fun h => by simp [hop] at h), fun _ => by simp, by simp, by simp⟩
    clear hL4 hS4
    go_wp2_with fail
    go_end0
    exact HE.out
  · go_upto_region 2 with (fail)
    have hf3 := Hf2.out.alloc (.cells #[.string ⟨rw_.toArray⟩, .int .i64 ra, .int .i64 rt, .int .i64 rl] 63)
    have hb3 := HI.out.alloc (.cells #[.string ⟨rw_.toArray⟩, .int .i64 ra, .int .i64 rt, .int .i64 rl] 63)
    have hs3 := H0.out.1.fr0 hf3
    have hL3 := H0.out.2.1.fr0 hf3
    obtain ⟨vE, hg3⟩ := hL3.blk4
    have hc3 := H0.out.2.2.1.fr hf3 (by simp) hle
    have HOp := hide (operand_calls hs3 HK.out.1 HK.out.2.1 hg3 hc3 (Nat.le_trans hle hf3.size) hl hnr x)
    have HL3 := hide hL3
    have HI3 := hide hb3
    have Hf3 := hide hf3
    have j0 := hb3.at_ 0 (v := .int .i64 x.op) rfl
    have j1 := hb3.at_ 1 (v := .int .i64 x.a) rfl
    have j2 := hb3.at_ 2 (v := .int .i64 x.b) rfl
    have lb := hb3.lt
    have lw := hf3.size
    clear hs3 hf3 hL3 hb3 hg3 hc3
    generalize hhw : w.heap.size = hw at *
    have Hhw := hide hhw
    clear hhw
    generalize World.alloc w2 _ = w3 at *
    go_wp2_with fail
    refine HOp.out.mono ?_
    rintro e w4 ⟨k, rfl, hf4⟩
    clear j0 j1 j2 lb
    have hf04 := Hf3.out.trans hf4
    have hb4 := HI3.out.fr0 hf4
    have hs4 := H0.out.1.fr0 hf04
    have hL4 := H0.out.2.1.fr0 hf04
    obtain ⟨vE4, hg4⟩ := hL4.blk4
    have hc4 := H0.out.2.2.1.fr hf04 (by simp) (by rw [Hhw.out]; exact hle)
    have hT4 := H0.out.2.2.2.fr0 hf04
    have hBw4 : B ≤ w4.heap.size := Nat.le_trans hle (by rw [← Hhw.out]; exact hf04.size)
    have HCell := hide (fun h => isCell_calls hg4 hc4 hBw4 hl hT4 x h)
    have HArgs := hide (args_calls hT4 x.op)
    have HL4 := hide hL4
    have Hf4 := hide hf04
    have HI4 := hide hb4
    have j0 := hb4.at_ 0 (v := .int .i64 x.op) rfl
    have j1 := hb4.at_ 1 (v := .int .i64 x.a) rfl
    have j2 := hb4.at_ 2 (v := .int .i64 x.b) rfl
    have lb := hb4.lt
    have e1 := hs4.cell 1 HK.out.1
    have l1 := Nat.lt_of_lt_of_le (hs4.glob 1 HK.out.1) hs4.le
    change w4.cell? ⟨4, 0, none⟩ = some (sv (ad 1)) at e1
    change 4 < w4.heap.size at l1
    have Hs4 := hide hs4
    clear hf4 hf04 hb4 hs4 hL4 hg4 hc4 hT4 hBw4 lw HOp HL3 HI3 Hf3
    have HcIf := hide (Ha2.out)
    have HN : Hid (∀ w5, Fr S w4 w5 → w5.cell? ⟨hw, 0, none⟩ = some (.int .i64 x.op) ∧ w5.cell? ⟨hw, 1, none⟩ = some (.int .i64 x.a) ∧ w5.cell? ⟨hw, 2, none⟩ = some (.int .i64 x.b) ∧ hw < w5.heap.size) := hide fun w5 hf5 => by
      have hb5 := HI4.out.fr hf5 (fun hm => by have := (H0.out.2.1.ge hw hm).2; rw [Hhw.out] at this; omega)
      exact ⟨hb5.at_ 0 rfl, hb5.at_ 1 rfl, hb5.at_ 2 rfl, hb5.lt⟩
    have HZ : Hid (∀ w7 b S5, ∀ w5, LookR B w5 g [s0, .slice A1 nr c1] n (bs ++ [b]) S5 → Stp S S5 w w5 → Fr [] w5 w7 → ra < 2 → Calls Tryd.prog 31 #[.pointer (some ⟨g, 0, none⟩), .agg #[.int .i64 x.op, .int .i64 x.a, .int .i64 x.b]] w7 (fun e w' => e = .returned (.bool (cellB cs x)) ∧ Fr [] w7 w')) := hide fun w7 b S5 w5 hL5 hS5 hf hra => by
      have hSg := H0.out.2.1.ge
      have hf5 : Fr S w w7 := hS5.fr.trans (hf.any S)
      have hle' : B ≤ w.heap.size := by rw [Hhw.out]; exact hle
      obtain ⟨vE5, hg5⟩ := (hL5.fr0 hf).blk4
      exact isCell_calls hg5 (H0.out.2.2.1.fr hf5 (fun b hb => (hSg b hb).1) hle') (Nat.le_trans hle' hf5.size) hl (H0.out.2.2.2.below hTB (hf5.below (fun b hb => (hSg b hb).1) hle')) x (fun h => by rw [Hr.out] at h; exact absurd hra h)
    cases hob : opndB cs nr n x
    · have hn := eql_nil_false 121 (.pointer (some (ad k)))
      simp only [Bool.false_eq_true, if_false]
      go_wp2_with fail
      refine (HX.out _ HL4.out Hf4.out _ _ _).mono ?_
      rintro e w5 ⟨rfl, b, S5, hL5, hS5, hf45⟩
      have hSg := H0.out.2.1.ge
      have hf5 : Fr S w w5 := hS5.fr
      have hBw5 : B ≤ w5.heap.size := Nat.le_trans (by rw [Hhw.out]; exact hle) hf5.size
      have hs5 := H0.out.1.fr hf5 (fun b hb => (hSg b hb).1)
      have hc5 := H0.out.2.2.1.fr hf5 (fun b hb => (hSg b hb).1) (by rw [Hhw.out]; exact hle)
      have hT5 := H0.out.2.2.2.below hTB (hf5.below (fun b hb => (hSg b hb).1) (by rw [Hhw.out]; exact hle))
      obtain ⟨vE5, hg5⟩ := hL5.blk4
      have HI5 := HN.out w5 hf45
      have HArgs5 := hide (args_calls hT5 x.op)
      rw [Hr.out] at HArgs5
      simp only at HArgs5
      have e1 := hs5.cell 1 HK.out.1
      have l1 := Nat.lt_of_lt_of_le (hs5.glob 1 HK.out.1) hs5.le
      change w5.cell? ⟨4, 0, none⟩ = some (sv (ad 1)) at e1
      change 4 < w5.heap.size at l1
      have HE : Hid (∀ w6, Fr [] w5 w6 → InsPost B w g s0 (.slice A1 nr c1) n bs S false (.returned (.tuple #[])) w6) := hide fun w6 hf => ⟨rfl, bs ++ [b], S5, hL5.fr0 hf, Stp.trans hS5 ⟨hf.any _, fun b hb => .inl hb⟩, (fun h => by simp at h), fun _ => by simp, by simp, by simp⟩
      have HL5 := hide (And.intro hL5 hS5)
      have Hs5 := hide hs5
      have j0 := HI5.1
      have j1 := HI5.2.1
      have j2 := HI5.2.2.1
      have lb := HI5.2.2.2
      have HI5' := hide HI5
      clear hS5 hL5 hf5 hf45 hBw5 hs5 hc5 hT5 hg5 hSg HI5
      go_wp2_with fail
      refine HArgs5.out.mono ?_
      rintro e w6 ⟨rfl, hf6⟩
      have HE6 := hide (HE.out w6 hf6)
      have j0 := (hf6.cell (p := ⟨hw, 0, none⟩) lb (by simp)).trans j0
      have j1 := (hf6.cell (p := ⟨hw, 1, none⟩) lb (by simp)).trans j1
      have j2 := (hf6.cell (p := ⟨hw, 2, none⟩) lb (by simp)).trans j2
      have lb6 := Nat.lt_of_lt_of_le lb hf6.size
      have Hf6 := hide hf6
      clear hf6
      by_cases hra : ra < 2
      · have Hra := hide hra
        have HCc := hide (fun w7 (hf : Fr [] w5 w7) => HZ.out w7 b S5 w5 HL5.out.1 HL5.out.2 hf Hra.out)
        go_wp2_with fail
        refine (HCc.out _ Hf6.out).mono ?_
        rintro e w7 ⟨rfl, hf7⟩
        have hf57 := Hf6.out.trans hf7
        have HE7 := hide (HE.out w7 hf57)
        cases hcb : cellB cs x
        · have e1' := (hf57.cell (p := ⟨4, 0, none⟩) l1 (by simp)).trans e1
          have l1' : 4 < w7.heap.size := Nat.lt_of_lt_of_le l1 hf57.size
          have HL7 := hide (HL5.out.1.fr0 hf57)
          have HS7 := hide (Stp.trans HL5.out.2 (⟨hf57.any S5, fun b hb => .inl hb⟩ : Stp S5 S5 w5 w7))
          clear hf57 hf7
          go_wp2_with fail
          refine (note_calls HL7.out hi (by simp; omega) _ _ _).mono ?_
          rintro e w8 ⟨rfl, b8, S8, hL8, hS8⟩
          have HE8 : Hid (InsPost B w g s0 (.slice A1 nr c1) n bs S false (.returned (.tuple #[])) w8) := hide ⟨rfl, _, S8, hL8, Stp.trans HS7.out hS8, (fun h => by simp at h), fun _ => by simp, by simp, by simp⟩
          clear hL8 hS8
          go_wp2_with fail
          go_end0
          first | exact HE8.out | simpa [hop, hob] using HE8.out
        · clear hf57 hf7
          go_wp2_with fail
          go_end0
          first | exact HE7.out | simpa [hop, hob] using HE7.out
      · go_wp2_with fail
        go_end0
        first | exact HE6.out | simpa [hop, hob] using HE6.out
    · simp only [if_true]
      go_wp2_with fail
      refine (HCell.out (fun h => HcIf.out (by rw [Hr.out] at h; simp only at h; omega) hob)).mono ?_
      rintro e w5 ⟨rfl, hf5⟩
      have hL5 := HL4.out.fr0 hf5
      have hf05 := Hf4.out.trans hf5
      cases hcb : cellB cs x
      · have hs5 := Hs4.out.fr0 hf5
        have e1 := hs5.cell 1 HK.out.1
        have l1 := Nat.lt_of_lt_of_le (hs5.glob 1 HK.out.1) hs5.le
        change w5.cell? ⟨4, 0, none⟩ = some (sv (ad 1)) at e1
        change 4 < w5.heap.size at l1
        have HL5 := hide (And.intro hL5 hf05)
        clear hs5 hL5 hf05 hf5
        go_wp2_with fail
        refine (HX.out _ HL5.out.1 HL5.out.2 _ _ _).mono ?_
        rintro e w6 ⟨rfl, b, S', hL6, hS6, -⟩
        have HE : Hid (InsPost B w g s0 (.slice A1 nr c1) n bs S false (.returned (.tuple #[])) w6) := hide ⟨rfl, bs ++ [b], S', hL6, hS6, (fun h => by simp at h), fun _ => by simp, by simp, by simp⟩
        clear hL6 hS6
        go_wp2_with fail
        go_end0
        first | exact HE.out | simpa [hop, hob, hcb] using HE.out
      · have HE : Hid (InsPost B w g s0 (.slice A1 nr c1) n bs S true (.returned (.tuple #[])) w5) := hide ⟨rfl, bs, S, hL5, ⟨hf05.any S, fun b hb => .inl hb⟩, (fun h => rfl), (fun h => by simp at h), by simp, by simp⟩
        clear hL5 hf05 hf5
        go_wp2_with fail
        go_end0
        first | exact HE.out | simpa [hop, hob, hcb] using HE.out
end Go.Proofs.YthjakngpegdhmaaDoor

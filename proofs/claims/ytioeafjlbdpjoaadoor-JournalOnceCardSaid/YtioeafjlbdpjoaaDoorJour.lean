/- The journal as an object: its stretches; wrong, New, Len, last, place. -/
import Derived.Test.YtioeafjlbdpjoaaDoorIdx
namespace Go.Proofs.YtioeafjlbdpjoaaDoor
open Go.RowKit
/-- the numbers of the errors that a journal makes -/
structure KJ (K : List Nat) : Prop where
  h1 : 1 ∈ K
  h2 : 2 ∈ K
  h6 : 6 ∈ K
  h8 : 8 ∈ K
  h16 : 16 ∈ K
theorem wrong_calls {w : World} {ad : Nat → Addr} (k : Nat) : Calls Tryd.prog 28 #[sv (ad k)] w fun e w' => ∃ v, e = .returned v ∧ NewErr w w' ad v k ∧ Fr [] w w' := by
  have H := hide (at_sent (w := w) (ad := ad) (k := k) ⟨#[106, 111, 117, 114, 110, 97, 108]⟩)
  go_enter Tryd.func28, Tryd.ntmps28
  go_wp2_with fail
  refine H.out.mono ?_
  rintro e w' ⟨v, rfl, hn, hf⟩
  have H2 := hide (And.intro hn hf)
  obtain ⟨t, a, rfl⟩ := hn.form
  clear hn hf
  go_wp2_with fail
  go_ret
  exact ⟨_, rfl, H2.out.1, H2.out.2⟩
/-- a mark and the entries behind it -/
structure St where
  fr : Int
  us : List Un
/-- a stretch lies at block p; T: its blocks -/
def StR (B : Nat) (good : Nat → Prop) (w : World) (p : Nat) (s : St) (T : List Nat) : Prop :=
  ∃ (uv : Value) (m : Nat) (ds : List Ud), Blk w p 72 #[.int .i64 s.fr, uv, .map (some m)] ∧ w.ownsRow B 37 11 uv s.us.length (ds.flatMap Ud.cells) ∧ SetB w m (s.us.map ownK) ∧ ds.map (·.u) = s.us ∧ (∀ d ∈ ds, PsOk good w d) ∧ B ≤ p ∧ B ≤ m ∧ T = p :: m :: uv.ownBlock.toList
section
variable {B : Nat} {good good' : Nat → Prop} {w w' : World} {p : Nat} {s : St} {T X : List Nat}
theorem StR.fr' (h : StR B good w p s T) (hf : Fr X w w') (hT : ∀ b ∈ T, b ∉ X) (hg : ∀ b, good b → b ∉ X) : StR B good w' p s T := by
  obtain ⟨uv, m, ds, h1, h2, h3, h4, h5, h6, h7, rfl⟩ := h
  exact ⟨uv, m, ds, h1.fr hf (hT _ (by simp)), row_fr h2 hf (fun k hk => hT k (by simp [hk])), h3.fr hf (hT _ (by simp)), h4, fun d hd => (h5 d hd).keep hf hg, h6, h7, rfl⟩
theorem StR.imp (h : StR B good w p s T) (hg : ∀ b, good b → b < w.heap.size → good' b) : StR B good' w p s T := by
  obtain ⟨uv, m, ds, h1, h2, h3, h4, h5, h6, h7, rfl⟩ := h
  exact ⟨uv, m, ds, h1, h2, h3, h4, fun d hd => (h5 d hd).imp hg, h6, h7, rfl⟩
theorem StR.ge (h : StR B good w p s T) : ∀ b ∈ T, B ≤ b ∧ b < w.heap.size := by
  obtain ⟨uv, m, ds, h1, h2, h3, h4, h5, h6, h7, rfl⟩ := h
  intro b hb
  simp only [List.mem_cons, Option.mem_toList] at hb
  rcases hb with rfl | rfl | hb
  · exact ⟨h6, h1.lt⟩
  · exact ⟨h7, h3.lt⟩
  · have := row_lt h2 hb; exact ⟨this.2, this.1⟩
theorem StR.out (h : StR B good w p s T) {b : Nat} {t : TypeId} {cs : Array Value} (hb : Blk w b t cs) (h1 : t ≠ 72) (h2 : t ≠ 37) : b ∉ T := by
  obtain ⟨uv, m, ds, q1, q2, q3, q4, q5, q6, q7, rfl⟩ := h
  intro hm
  simp only [List.mem_cons, Option.mem_toList] at hm
  rcases hm with rfl | rfl | hm
  · exact hb.ne_ q1 h1 rfl
  · exact q3.ne_blk hb rfl
  · exact row_blk_ne q2 hb (Ne.symm h2) hm
theorem StR.head (h : StR B good w p s T) : p ∈ T := by
  obtain ⟨uv, m, ds, q1, q2, q3, q4, q5, q6, q7, rfl⟩ := h
  simp
theorem StR.frame (h : StR B good w p s T) : ∃ uv mv, Blk w p 72 #[.int .i64 s.fr, uv, mv] := by
  obtain ⟨uv, m, ds, q1, r⟩ := h
  exact ⟨_, _, q1⟩
end
abbrev Sr := Nat × St × List Nat
/-- A journal at block g: its stretches, how many entries at most, how many there are; S: its blocks. -/
def JR (B : Nat) (w : World) (g : Nat) (sts : List St) (most size : Int) (S : List Nat) : Prop :=
  ∃ (sl : Value) (rs : List Sr) (Q : List Nat), rs.map (·.2.1) = sts ∧ Blk w g 67 #[sl, .int .i64 most, .int .i64 size] ∧ RowO w B 68 sl rs.length (rs.map fun x => ptr x.1) ∧
    (∀ x ∈ rs, StR B (· ∈ Q) w x.1 x.2.1 x.2.2) ∧ B ≤ g ∧ (rs.flatMap (·.2.2)).Nodup ∧
    (∀ b ∈ Q, b ∉ g :: (sl.ownBlock.toList ++ rs.flatMap (·.2.2)) ∧ B ≤ b ∧ b < w.heap.size) ∧ S = (g :: (sl.ownBlock.toList ++ rs.flatMap (·.2.2))) ++ Q
section
variable {B : Nat} {w w' : World} {g : Nat} {sts : List St} {most size : Int} {S X : List Nat}
theorem JR.fr (h : JR B w g sts most size S) (hf : Fr X w w') (hX : ∀ b ∈ S, b ∉ X) : JR B w' g sts most size S := by
  obtain ⟨sl, rs, Q, h1, h2, h3, h4, h5, h6, h7, rfl⟩ := h
  refine ⟨sl, rs, Q, h1, h2.fr hf (hX _ (by simp)), h3.fr hf (fun k hk => hX k (by simp [hk])), fun x hx => (h4 x hx).fr' hf (fun b hb => hX b ?_) (fun b hb => hX b (by simp [hb])), h5, h6, fun b hb => ⟨(h7 b hb).1, (h7 b hb).2.1, Nat.lt_of_lt_of_le (h7 b hb).2.2 hf.size⟩, rfl⟩
  exact List.mem_append_left _ (List.mem_cons_of_mem _ (List.mem_append_right _ (List.mem_flatMap.2 ⟨x, hx, hb⟩)))
theorem JR.fr0 (h : JR B w g sts most size S) (hf : Fr [] w w') : JR B w' g sts most size S := h.fr hf (by simp)
theorem JR.ge (h : JR B w g sts most size S) : ∀ b ∈ S, B ≤ b ∧ b < w.heap.size := by
  obtain ⟨sl, rs, Q, h1, h2, h3, h4, h5, h6, h7, rfl⟩ := h
  intro b hb
  simp only [List.mem_append, List.mem_cons, Option.mem_toList, List.mem_flatMap] at hb
  rcases hb with (rfl | hb | ⟨x, hx, hb⟩) | hb
  · exact ⟨h5, h2.lt⟩
  · obtain ⟨cur, hc, hB⟩ := h3.blk hb; exact ⟨hB, hc.lt⟩
  · exact (h4 x hx).ge b hb
  · exact (h7 b hb).2
theorem JR.mem (h : JR B w g sts most size S) : g ∈ S := by
  obtain ⟨sl, rs, Q, h1, h2, h3, h4, h5, h6, h7, rfl⟩ := h
  simp
end
set_option maxRecDepth 100000 in
set_option maxHeartbeats 1000000 in
theorem new_bad {K : List Nat} {B : Nat} {w : World} {ad : Nat → Addr} (hK : KJ K) (hs : Sents K B w ad) {most : Int} (h : most < 1 ∨ 65536 < most) :
    Calls Tryd.prog 8 #[.int .i64 most] w fun e w' => ∃ v, e = .returned (.tuple #[.pointer none, v]) ∧ NewErr w w' ad v 1 ∧ Fr [] w w' := by
  have c1 := hs.cell 1 hK.h1
  have l1 := Nat.lt_of_lt_of_le (hs.glob 1 hK.h1) hs.le
  have HW := hide (wrong_calls (w := w) (ad := ad) 1)
  simp only [gOf] at c1 l1
  clear hs hK
  rcases h with h | h
  all_goals
    first
    | (have h' : ¬ most < 1 := by omega)
    | skip
    go_enter Tryd.func8, Tryd.ntmps8
    go_wp2_with fail
    refine HW.out.mono ?_
    rintro e w' ⟨v, rfl, hn, hf⟩
    have H2 := hide (And.intro hn hf)
    obtain ⟨t, a, rfl⟩ := hn.form
    clear hn hf
    go_wp2_with fail
    go_ret2
    exact ⟨_, rfl, H2.out.1, H2.out.2⟩
set_option maxRecDepth 100000 in
set_option maxHeartbeats 1000000 in
theorem new_calls {w : World} {most : Int} (h1 : 1 ≤ most) (h2 : most ≤ 65536) :
    Calls Tryd.prog 8 #[.int .i64 most] w fun e w' => ∃ g, e = .returned (.tuple #[.pointer (some ⟨g, 0, none⟩), .nilIface]) ∧ (∃ S, JR w.heap.size w' g [] most 0 S) ∧ Fr [] w w' := by
  have h1' : ¬ most < 1 := by omega
  have h2' : ¬ most > 65536 := by omega
  go_enter Tryd.func8, Tryd.ntmps8
  go_wp2_with fail
  go_ret2
  refine ⟨_, rfl, ⟨_, .slice none 0 0, [], [], rfl, Blk.new _ _ _, RowO.nil _ _ _, by simp, Nat.le_refl _, by simp, by simp, rfl⟩, (Fr.refl _ _).alloc _⟩
set_option maxRecDepth 100000 in
theorem len_calls {B : Nat} {w : World} {g : Nat} {sts : List St} {most size : Int} {S : List Nat} (h : JR B w g sts most size S) :
    Calls Tryd.prog 14 #[ptr g] w fun e w' => e = .returned (.int .i64 size) ∧ w = w' := by
  obtain ⟨sl, rs, Q, h1, h2, h3, h4, h5, h6, h7, rfl⟩ := h
  have c2 := h2.at_ 2 (v := .int .i64 size) rfl
  have lg := h2.lt
  clear h1 h2 h3 h4 h5 h6 h7
  go_enter Tryd.func14, Tryd.ntmps14
  go_wp2_with fail
  go_ret
  exact ⟨rfl, rfl⟩
theorem len_nil (w : World) : Calls Tryd.prog 14 #[.pointer none] w fun e w' => e = .returned (.int .i64 0) ∧ w = w' := by
  go_enter Tryd.func14, Tryd.ntmps14
  go_wp2_with fail
  go_ret
  exact ⟨rfl, rfl⟩
set_option maxRecDepth 100000 in
theorem last_none {B : Nat} {w : World} {g : Nat} {sl a b : Value} (hg : Blk w g 67 #[sl, a, b]) (hr : RowO w B 68 sl 0 []) :
    Calls Tryd.prog 29 #[ptr g] w fun e w' => e = .returned (.pointer none) ∧ w = w' := by
  obtain ⟨A, c, rfl⟩ : ∃ A c, sl = .slice A 0 c := by
    rcases hr.form with ⟨rfl, _⟩ | ⟨g, o, cap, rfl, _⟩
    · exact ⟨_, _, rfl⟩
    · exact ⟨_, _, rfl⟩
  have c0 := hg.at_ 0 (v := .slice A 0 c) rfl
  have lg := hg.lt
  clear hg hr
  go_enter Tryd.func29, Tryd.ntmps29
  go_wp2_with fail
  go_ret
  exact ⟨rfl, rfl⟩
set_option maxRecDepth 100000 in
theorem last_some {B : Nat} {w : World} {g : Nat} {sl a b : Value} {rs : List Sr} {x : Sr} (hg : Blk w g 67 #[sl, a, b]) (hr : RowO w B 68 sl (rs ++ [x]).length ((rs ++ [x]).map fun x => ptr x.1)) (hn : rs.length ≤ 100000) :
    Calls Tryd.prog 29 #[ptr g] w fun e w' => e = .returned (ptr x.1) ∧ Fr [] w w' := by
  have hl : (rs ++ [x]).length = rs.length + 1 := by simp
  rw [hl] at hr
  obtain ⟨gg, o, c, rfl, _, lgg, hnc, hcm⟩ : ∃ gg o c, sl = .slice (some ⟨gg, o, none⟩) (rs.length + 1) c ∧ B ≤ gg ∧ gg < w.heap.size ∧ rs.length + 1 ≤ c ∧ c ≤ maxLen := by
    rcases hr.form with ⟨_, h0, _⟩ | h
    · omega
    · exact h
  have c0 := hg.at_ 0 (v := .slice (some ⟨gg, o, none⟩) (rs.length + 1) c) rfl
  have lg := hg.lt
  have p0 := hr.cell (i := rs.length) (u := ptr x.1) (by simp)
  have e1 : ((rs.length + 1 : Nat) : Int) - 1 = (rs.length : Int) := by omega
  have n0 : ¬ ((rs.length + 1 : Nat) : Int) = 0 := by omega
  have e2 : IntKind.i64.wrap (((rs.length + 1 : Nat) : Int) - 1) = (rs.length : Int) := by rw [e1, IntKind.wrap_i64]; omega
  have i0 : (0 : Int) ≤ (rs.length : Int) := by omega
  have i1 : (rs.length : Int) < ((rs.length + 1 : Nat) : Int) := by omega
  clear hg hr hl e1
  generalize rs.length = n at *
  go_enter Tryd.func29, Tryd.ntmps29
  go_wp2_with fail
  go_quiet (fail)
  go_wp2_with fail
  go_ret
  exact ⟨rfl, (Fr.refl _ _).drewN _⟩
end Go.Proofs.YtioeafjlbdpjoaaDoor

/- Badges by contracts: New, Entity, ID, Next, Len, List, wrong. -/
import Derived.Test.YtpipgkglacmoeaaDoorBadge
namespace Go.Proofs.YtpipgkglacmoeaaDoor
open Go.RowKit

def BR (B : Nat) (w : World) (g : Nat) (ps : List (Int × Ent)) (ds : List Int) (nx : Int) (S : List Nat) : Prop :=
  ∃ mo mi vs, Blk w g 66 #[.map (some mo), .map (some mi), vs, .int .i64 nx] ∧ MapB encId w mo (owners ps) ∧ MapB encE w mi (idsOf ps) ∧ w.ownsRow B 3 1 vs ds.length (ints ds) ∧ mo ≠ mi ∧ B ≤ g ∧ B ≤ mo ∧ B ≤ mi ∧ S = g :: mo :: mi :: vs.ownBlock.toList
section
variable {κ : Type} {enc : κ → Value} {w w' : World} {g m : Nat} {t : TypeId} {cs : Array Value} {l : List (κ × Value)}
theorem blk_map_ne (h : Blk w g t cs) (hm : MapB enc w m l) : g ≠ m := by
  rintro rfl
  obtain ⟨es, clock, h1, -⟩ := hm
  unfold Blk at h
  rw [h] at h1
  cases h1
theorem row_map_ne {B n size : Nat} {v : Value} {xs : List Value} (h : w.ownsRow B t size v n xs) (hm : MapB enc w m l) : v.ownBlock ≠ some m := by
  rcases row_form h with ⟨rfl, _⟩ | ⟨g, cap, rfl, _⟩
  · simp [Value.ownBlock]
  · obtain ⟨cur, hg, _⟩ := row_blk h
    intro e
    exact blk_map_ne hg hm (Option.some.inj e)
end
section
variable {B : Nat} {w w' : World} {g : Nat} {ps : List (Int × Ent)} {ds : List Int} {nx : Int} {S T : List Nat}
theorem BR.fr (h : BR B w g ps ds nx S) (hf : Fr T w w') (hT : ∀ b ∈ S, b ∉ T) : BR B w' g ps ds nx S := by
  obtain ⟨mo, mi, vs, h1, h2, h3, h4, h5, h6, h7, h8, rfl⟩ := h
  refine ⟨mo, mi, vs, h1.fr hf (hT _ (by simp)), h2.fr hf (hT _ (by simp)), h3.fr hf (hT _ (by simp)), row_fr h4 hf (fun k hk => hT k (by simp [hk])), h5, h6, h7, h8, rfl⟩
theorem BR.fr0 (h : BR B w g ps ds nx S) (hf : Fr [] w w') : BR B w' g ps ds nx S := h.fr hf (by simp)
theorem BR.ge (h : BR B w g ps ds nx S) : ∀ b ∈ S, B ≤ b ∧ b < w.heap.size := by
  obtain ⟨mo, mi, vs, h1, h2, h3, h4, h5, h6, h7, h8, rfl⟩ := h
  intro b hb
  simp only [List.mem_cons, Option.mem_toList] at hb
  rcases hb with rfl | rfl | rfl | hb
  · exact ⟨h6, h1.lt⟩
  · exact ⟨h7, h2.lt⟩
  · exact ⟨h8, h3.lt⟩
  · have := row_lt h4 hb; exact ⟨this.2, this.1⟩
theorem BR.up {B' : Nat} (h : BR B w g ps ds nx S) (hB : B' ≤ B) : BR B' w g ps ds nx S := by
  obtain ⟨mo, mi, vs, h1, h2, h3, h4, h5, h6, h7, h8, rfl⟩ := h
  refine ⟨mo, mi, vs, h1, h2, h3, ?_, h5, by omega, by omega, by omega, rfl⟩
  refine ⟨h4.1, ?_⟩
  rcases h4.2 with h0 | ⟨k, cap, cur, hv, hb, hg, q1, q2, q3, q4⟩
  · exact .inl h0
  · exact .inr ⟨k, cap, cur, hv, by omega, hg, q1, q2, q3, q4⟩
end
set_option maxRecDepth 100000 in
theorem wrong_calls {w : World} {ad : Nat → Addr} (k : Nat) : Calls Tryd.prog 29 #[sv (ad k)] w fun e w' => ∃ v, e = .returned v ∧ NewErr w w' ad v k ∧ Fr [] w w' := by
  have H := hide (at_sent (w := w) (ad := ad) (k := k) ⟨#[98, 97, 100, 103, 101]⟩)
  go_enter Tryd.func29, Tryd.ntmps29
  go_wp2_with fail
  refine H.out.mono ?_
  rintro e w' ⟨v, rfl, hn, hf⟩
  obtain ⟨t, a, rfl⟩ := hn.form
  have Hn := hide (And.intro hn hf)
  clear hn hf
  go_wp2_with fail
  go_ret
  exact ⟨_, rfl, Hn.out⟩
set_option maxRecDepth 100000 in
theorem new_calls {w : World} : Calls Tryd.prog 8 #[] w fun e w' => ∃ g S, e = .returned (.pointer (some ⟨g, 0, none⟩)) ∧ BR w.heap.size w' g [] [] 1 S ∧ Fr [] w w' := by
  have hmm := @run_makeMap Tryd.prog
  go_enter Tryd.func8, Tryd.ntmps8
  go_wp2_with fail
  go_ret
  refine ⟨_, _, rfl, ⟨w.heap.size, w.heap.size + 1, .slice none 0 0, Blk.new_at _ _ _ _ (by simp only [World.alloc, Array.size_push]), ?_, ?_, World.ownsRow_nil _ _ _ _, by omega, by omega, by omega, by omega, rfl⟩, (((Fr.refl [] w).alloc _).alloc _).alloc _⟩
  · exact ((MapB.new w).fr0 ((Fr.refl _ _).alloc _)).fr0 ((Fr.refl _ _).alloc _)
  · have := MapB.new (enc := encE) (w.alloc (.map #[] 0))
    rw [show (w.alloc (.map #[] 0)).heap.size = w.heap.size + 1 from by simp only [World.alloc, Array.size_push]] at this
    exact this.fr0 ((Fr.refl _ _).alloc _)
set_option maxRecDepth 100000 in
theorem entity_calls {B : Nat} {w : World} {g : Nat} {ps : List (Int × Ent)} {ds : List Int} {nx : Int} {S : List Nat} (h : BR B w g ps ds nx S) (id : Int) :
    Calls Tryd.prog 15 #[.pointer (some ⟨g, 0, none⟩), .int .i64 id] w fun e w' => e = .returned (.tuple #[encE ((ownOf ps id).getD (0, 0)), .bool (ownOf ps id).isSome]) ∧ Fr [] w w' := by
  obtain ⟨mo, mi, vs, h1, h2, h3, h4, h5, h6, h7, h8, rfl⟩ := h
  have hl := run_lookup (mt := 63) (kt := 3) (et := 27) Tryd.underlying63 key_id (z := encE (0, 0)) (fun w => Tryd.zeroValue27 w) (h2.fr0 ((Fr.refl [] w).alloc (.cells #[.int .i64 0, .int .i64 0] 27))) id
  have hv : ((findK id (owners ps) 0).map (·.2)).getD (encE (0, 0)) = encE ((ownOf ps id).getD (0, 0)) := by
    rw [find_owners]; cases ownOf ps id <;> rfl
  have hs : (findK id (owners ps) 0).isSome = (ownOf ps id).isSome := by
    have := congrArg Option.isSome (find_owners ps id 0)
    simpa using this
  rw [hv, hs] at hl
  clear hv hs
  generalize ownOf ps id = o at *
  generalize o.getD (0, 0) = e at *
  obtain ⟨e1, e2⟩ := e
  have g0 := h1.at_ 0 (v := .map (some mo)) rfl
  have lg := h1.lt
  clear h1 h2 h3 h4
  simp only [encE, encId] at hl ⊢
  go_enter Tryd.func15, Tryd.ntmps15
  go_wp2_with fail
  refine bodyPost_ret (v := .tuple #[.agg #[.int .i64 e1, .int .i64 e2], .bool o.isSome]) (by simp [results, Tryd.results15, go_sem]) rfl ⟨rfl, ?_⟩
  (repeat (first | exact Fr.refl _ _ | apply Fr.drew | apply Fr.drewN | apply Fr.alloc | (refine Fr.setCell ?_ (by first | (left; simp [Value.ownBlock]; done) | (right; simp; omega) | (right; simp; done)) _)))
set_option maxRecDepth 100000 in
theorem id_calls {B : Nat} {w : World} {g : Nat} {ps : List (Int × Ent)} {ds : List Int} {nx : Int} {S : List Nat} (h : BR B w g ps ds nx S) (e : Ent) :
    Calls Tryd.prog 16 #[.pointer (some ⟨g, 0, none⟩), encE e] w fun e' w' => e' = .returned (.tuple #[.int .i64 ((idOf ps e).getD 0), .bool (idOf ps e).isSome]) ∧ Fr [] w w' := by
  obtain ⟨mo, mi, vs, h1, h2, h3, h4, h5, h6, h7, h8, rfl⟩ := h
  obtain ⟨e1, e2⟩ := e
  have hl := fun W (hf : Fr [] w W) => run_lookup (mt := 64) (kt := 27) (et := 3) Tryd.underlying64 key_ent (z := encId 0) (fun w => Tryd.zeroValue3 w) (h3.fr0 hf) (e1, e2)
  have hv : ((findK (e1, e2) (idsOf ps) 0).map (·.2)).getD (encId 0) = encId ((idOf ps (e1, e2)).getD 0) := by
    rw [find_ids]; cases idOf ps (e1, e2) <;> rfl
  have hs : (findK (e1, e2) (idsOf ps) 0).isSome = (idOf ps (e1, e2)).isSome := by
    have := congrArg Option.isSome (find_ids ps (e1, e2) 0)
    simpa using this
  rw [hv, hs] at hl
  clear hv hs
  generalize idOf ps (e1, e2) = o at *
  have g0 := h1.at_ 1 (v := .map (some mi)) rfl
  have lg := h1.lt
  clear h1 h2 h3 h4
  have l1 := hl _ (((Fr.refl [] w).alloc (.cells #[.int .i64 e1, .int .i64 e2] 27)))
  have l2 := hl _ (((Fr.refl [] w).alloc (.cells #[.int .i64 e1, .int .i64 e2] 27)).drew)
  clear hl
  simp only [encE, encId] at l1 l2 ⊢
  go_enter Tryd.func16, Tryd.ntmps16
  go_wp2_with fail
  go_region
  all_goals
    go_wp2
    go_ret2
    refine ⟨rfl, ?_⟩
    (repeat (first | exact Fr.refl _ _ | apply Fr.drew | apply Fr.drewN | apply Fr.alloc | (refine Fr.setCell ?_ (by first | (left; simp [Value.ownBlock]; done) | (right; simp; omega) | (right; simp; done)) _)))
set_option maxRecDepth 100000 in
theorem next_calls {B : Nat} {w : World} {g : Nat} {ps : List (Int × Ent)} {ds : List Int} {nx : Int} {S : List Nat} (h : BR B w g ps ds nx S) :
    Calls Tryd.prog 17 #[.pointer (some ⟨g, 0, none⟩)] w fun e w' => e = .returned (.int .i64 nx) ∧ w = w' := by
  obtain ⟨mo, mi, vs, h1, h2, h3, h4, h5, h6, h7, h8, rfl⟩ := h
  have g0 := h1.at_ 3 (v := .int .i64 nx) rfl
  have lg := h1.lt
  clear h1 h2 h3 h4
  go_enter Tryd.func17, Tryd.ntmps17
  go_wp2_with fail
  go_ret
  exact ⟨rfl, rfl⟩
set_option maxRecDepth 100000 in
theorem len_calls {B : Nat} {w : World} {g : Nat} {ps : List (Int × Ent)} {ds : List Int} {nx : Int} {S : List Nat} (h : BR B w g ps ds nx S) :
    Calls Tryd.prog 14 #[.pointer (some ⟨g, 0, none⟩)] w fun e w' => e = .returned (.int .i64 ds.length) ∧ w = w' := by
  obtain ⟨mo, mi, vs, h1, h2, h3, h4, h5, h6, h7, h8, rfl⟩ := h
  obtain ⟨A, c, rfl⟩ : ∃ A c, vs = .slice A ds.length c := by
    rcases row_form h4 with ⟨rfl, h0, _⟩ | ⟨g, cap, rfl, _⟩
    · exact ⟨none, 0, by rw [h0]⟩
    · exact ⟨_, _, rfl⟩
  have g0 := h1.at_ 2 (v := .slice A ds.length c) rfl
  have lg := h1.lt
  clear h1 h2 h3 h4
  go_enter Tryd.func14, Tryd.ntmps14
  go_wp2_with fail
  go_ret
  exact ⟨rfl, rfl⟩
set_option maxRecDepth 100000 in
theorem list_calls {B : Nat} {w : World} {g : Nat} {ps : List (Int × Ent)} {ds : List Int} {nx : Int} {S : List Nat} (h : BR B w g ps ds nx S) (hl : ds.length ≤ 1000000) :
    Calls Tryd.prog 13 #[.pointer (some ⟨g, 0, none⟩)] w fun e w' => ∃ v', e = .returned v' ∧ w'.ownsRow w.heap.size 3 1 v' ds.length (ints ds) ∧ Fr [] w w' := by
  obtain ⟨mo, mi, vs, h1, h2, h3, h4, h5, h6, h7, h8, rfl⟩ := h
  have g0 := h1.at_ 2 (v := vs) rfl
  have lg := h1.lt
  have H := hide (clone_calls h4 hl)
  clear h1 h2 h3 h4
  go_enter Tryd.func13, Tryd.ntmps13
  go_wp2_with fail
  refine H.out.mono ?_
  rintro e w' ⟨v', rfl, hr⟩
  have Hr := hide hr
  clear hr
  go_wp2_with fail
  go_ret
  exact ⟨_, rfl, Hr.out⟩
end Go.Proofs.YtpipgkglacmoeaaDoor

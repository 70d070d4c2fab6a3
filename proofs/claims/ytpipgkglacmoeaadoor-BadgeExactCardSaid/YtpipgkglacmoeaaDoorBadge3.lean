/- Badges by contracts: own. -/
import Derived.Test.YtpipgkglacmoeaaDoorBadge2
namespace Go.Proofs.YtpipgkglacmoeaaDoor
open Go.RowKit

theorem sorted_le {ds : List Int} (h : ds.Pairwise (· < ·)) : ds.Pairwise (· ≤ ·) := h.imp fun h => by omega
theorem owners_mem {ps : List (Int × Ent)} {id : Int} (h : id ∉ ps.map (·.1)) : ∀ v, (id, v) ∉ owners ps := by
  intro v hm
  obtain ⟨p, hp, he⟩ := List.mem_map.mp hm
  exact h (List.mem_map.mpr ⟨p, hp, (Prod.mk.inj he).1⟩)
theorem ids_mem {ps : List (Int × Ent)} {e : Ent} (h : e ∉ ps.map (·.2)) : ∀ v, (e, v) ∉ idsOf ps := by
  intro v hm
  obtain ⟨p, hp, he⟩ := List.mem_map.mp hm
  exact h (List.mem_map.mpr ⟨p, hp, (Prod.mk.inj he).1⟩)
set_option maxRecDepth 100000 in
set_option maxHeartbeats 4000000 in
theorem own_calls {B : Nat} {w : World} {g : Nat} {ps : List (Int × Ent)} {ds : List Int} {nx : Int} {S : List Nat} (h : BR B w g ps ds nx S) (hB : B ≤ w.heap.size) (hs : ds.Pairwise (· < ·)) (hn : ds.length ≤ 100000) {id e1 e2 : Int} (hi : id ∉ ps.map (·.1)) (he : (e1, e2) ∉ ps.map (·.2)) :
    Calls Tryd.prog 30 #[.pointer (some ⟨g, 0, none⟩), .int .i64 id, .agg #[.int .i64 e1, .int .i64 e2]] w fun e w' => e = .returned (.tuple #[]) ∧ ∃ S', BR B w' g (ps ++ [(id, (e1, e2))]) (insL id ds) nx S' ∧ Stp S S' w w' := by
  obtain ⟨mo, mi, vs, h1, h2, h3, h4, h5, h6, h7, h8, rfl⟩ := h
  have n1 : vs.ownBlock ≠ some g := row_blk_ne h4 h1 (by decide)
  have n2 : vs.ownBlock ≠ some mo := row_map_ne h4 h2
  have n3 : vs.ownBlock ≠ some mi := row_map_ne h4 h3
  have n4 : g ≠ mo := blk_map_ne h1 h2
  have n5 : g ≠ mi := blk_map_ne h1 h3
  have hb0 : Fr [] w (w.alloc (.cells #[.int .i64 e1, .int .i64 e2] 27)) := (Fr.refl _ _).alloc _
  have HS := hide (search_calls (row_fr h4 hb0 (by simp)) (by omega) (sorted_le hs) id)
  have g2 := h1.at_ 2 (v := vs) rfl
  have lg := h1.lt
  have H := hide (And.intro h1 (And.intro h2 (And.intro h3 (And.intro h4 (And.intro h5 (And.intro h6 (And.intro h7 h8)))))))
  have HN := hide (And.intro n1 (And.intro n2 (And.intro n3 (And.intro n4 n5))))
  have HI := hide (And.intro hi he)
  have Hs := hide hs
  clear h1 h2 h3 h4 h5 n1 n2 n3 n4 n5 hi he hs
  go_enter Tryd.func30, Tryd.ntmps30
  go_wp2_with fail
  refine HS.out.mono ?_
  rintro e w2 ⟨rfl, hf2⟩
  have hf := hb0.trans hf2
  have hbox := (Blk.new w 27 #[.int .i64 e1, .int .i64 e2]).fr0 hf2
  have g2' := (H.out.1.fr0 hf).at_ 2 (v := vs) rfl
  have lg2 := (H.out.1.fr0 hf).lt
  have lb2 := hbox.lt
  have fg2 := (H.out.1.fr0 hf).frozen 2
  have hrow := row_fr H.out.2.2.2.1 (hf.alloc (.cells #[.int .i64 id] 3)) (by simp)
  have HI2 := hide (insert_calls hrow (Nat.le_trans hB (hf.alloc (.cells #[.int .i64 id] 3)).size) (by omega) (Blk.new w2 3 #[.int .i64 id]) (by
    intro he
    have := (row_lt (row_fr H.out.2.2.2.1 hf (by simp)) he).1
    omega) (i := ds.countP (· < id)) List.countP_le_length)
  rw [ins_at id Hs.out] at HI2
  have H2 := hide (And.intro hf hbox)
  have Hf2 := hide hf
  clear hf2 hf hbox hrow HS hb0 g2
  generalize ds.countP (· < id) = k at *
  go_wp2_with fail
  refine HI2.out.mono ?_
  rintro e w4 ⟨v', rfl, hr4, hf4, hat⟩
  obtain ⟨gv, cv, rfl⟩ : ∃ gv c, v' = .slice (some ⟨gv, 0, none⟩) (ds.length + 1) c := by
    rcases row_form hr4 with ⟨_, h0, _⟩ | ⟨gv, cap, rfl, _⟩
    · omega
    · exact ⟨_, _, rfl⟩
  have hfa : Fr vs.ownBlock.toList w w4 := ((H2.out.1.any _).alloc _).trans hf4
  have hg4 := H.out.1.fr hfa (by simpa using HN.out.1)
  have g24 := hg4.at_ 2 (v := vs) rfl
  have lg4 := hg4.lt
  have fg4 := hg4.frozen 2
  have hb4 : Blk w4 w.heap.size 27 #[.int .i64 e1, .int .i64 e2] := (H2.out.2.alloc (.cells #[.int .i64 id] 3)).fr hf4 (by
    intro hm
    have hm' : vs.ownBlock = some w.heap.size := by simpa using hm
    have := (row_lt H.out.2.2.2.1 hm').1
    omega)
  have H4 := hide (And.intro hr4 (And.intro hfa (And.intro hg4 (And.intro hb4 hat))))
  clear hr4 hf4 hat hfa hg4 hb4 HI2 g2' lg2 fg2 lb2 H2
  go_wp2_with fail
  obtain ⟨hr4, hfa, hg4, hb4, hat⟩ := H4.out
  have hgv : gv ≠ g := by
    rintro rfl
    rcases hat with hat | ⟨k, hk, hk2⟩
    · exact HN.out.1 hat.symm
    · have : gv = k := Option.some.inj hk
      simp only [World.alloc, Array.size_push] at hk2
      have := Hf2.out.size
      omega
  have hf5 : Fr (g :: vs.ownBlock.toList) w (w4.setCell ⟨g, 2, none⟩ (.slice (some ⟨gv, 0, none⟩) (ds.length + 1) cv)) := (hfa.mono (T := g :: vs.ownBlock.toList) (fun x hx => List.mem_cons_of_mem _ hx)).setCell (.inl (by simp)) _
  have hg5 := hg4.set_ 2 (.slice (some ⟨gv, 0, none⟩) (ds.length + 1) cv)
  have hr5 := row_far hr4 (p := ⟨g, 2, none⟩) (by simp [Value.ownBlock, hgv]) (.slice (some ⟨gv, 0, none⟩) (ds.length + 1) cv)
  have hb5 := hb4.far (p := ⟨g, 2, none⟩) (by simp; omega) (.slice (some ⟨gv, 0, none⟩) (ds.length + 1) cv)
  have hat5 : (Value.slice (some ⟨gv, 0, none⟩) (ds.length + 1) cv).ownBlock = vs.ownBlock ∨ w.heap.size ≤ gv := by
    rcases hat with hat | ⟨k, hk, hk2⟩
    · exact .inl hat
    · right
      have : gv = k := Option.some.inj hk
      have hz := hf5.size
      simp only [World.alloc, Array.size_push] at hk2
      have := Hf2.out.size
      omega
  generalize World.setCell w4 _ _ = w5 at hf5 hg5 hr5 hb5 ⊢
  have hmo := H.out.2.1.fr hf5 (by simp; exact ⟨Ne.symm HN.out.2.2.2.1, fun h => HN.out.2.1 h⟩)
  have hmi := H.out.2.2.1.fr hf5 (by simp; exact ⟨Ne.symm HN.out.2.2.2.2, fun h => HN.out.2.2.1 h⟩)
  have ne1 := row_map_ne hr5 hmo
  have ne2 := row_map_ne hr5 hmi
  obtain ⟨w6, w7, st1, r1, r2, m7, f6, f7⟩ := run_entry (mt := 63) (kt := 3) (et := 27) Tryd.underlying63 key_id (z := encE (0, 0)) (fun w => Tryd.zeroValue27 w) (hmo.fr0 ((Fr.refl [] w5).drew)) (owners_mem HI.out.1) (encE (e1, e2))
  obtain ⟨w8, w9, st2, r3, r4, m9, f8, f9⟩ := run_entry (mt := 64) (kt := 27) (et := 3) Tryd.underlying64 key_ent (z := encId 0) (fun w => Tryd.zeroValue3 w) ((hmi.fr0 ((Fr.refl [] w5).drew)).fr f7 (by simp; exact Ne.symm H.out.2.2.2.2.1)) (ids_mem HI.out.2) (encId id)
  simp only [encE, encId] at r1 r2 r3 r4
  have hg6 := (hg5.fr0 ((Fr.refl [] w5).drew)).fr f6 (by simpa using HN.out.2.2.2.1)
  have hg7 := (hg5.fr0 ((Fr.refl [] w5).drew)).fr f7 (by simpa using HN.out.2.2.2.1)
  have hg8 := hg7.fr f8 (by simpa using HN.out.2.2.2.2)
  have hg9 := hg7.fr f9 (by simpa using HN.out.2.2.2.2)
  have nb1 : w.heap.size ≠ mo := by have := H.out.2.1.lt; omega
  have nb2 : w.heap.size ≠ mi := by have := H.out.2.2.1.lt; omega
  have hb6 := (hb5.fr0 ((Fr.refl [] w5).drew)).fr f6 (by simpa using nb1)
  have hb7 := (hb5.fr0 ((Fr.refl [] w5).drew)).fr f7 (by simpa using nb1)
  have hb8 := hb7.fr f8 (by simpa using nb2)
  have c50 := hg5.at_ 0 (v := .map (some mo)) rfl
  have c51 := hg5.at_ 1 (v := .map (some mi)) rfl
  have c61 := hg6.at_ 1 (v := .map (some mi)) rfl
  have c71 := hg7.at_ 1 (v := .map (some mi)) rfl
  have b50 := hb5.at_ 0 (v := .int .i64 e1) rfl
  have b51 := hb5.at_ 1 (v := .int .i64 e2) rfl
  have b60 := hb6.at_ 0 (v := .int .i64 e1) rfl
  have b61 := hb6.at_ 1 (v := .int .i64 e2) rfl
  have b70 := hb7.at_ 0 (v := .int .i64 e1) rfl
  have b71 := hb7.at_ 1 (v := .int .i64 e2) rfl
  have HE := hide (And.intro hf5 (And.intro hr5 (And.intro m7 (And.intro m9 (And.intro f7 (And.intro f9 (And.intro hg9 (And.intro hat5 (And.intro ne1 ne2)))))))))
  clear hf5 hr5 m7 m9 f6 f7 f8 f9 hg5 hg6 hg7 hg8 hg9 hb5 hb6 hb7 hb8 hmo hmi ne1 ne2 hr4 hfa hg4 hb4 hat hat5 H4 g24 lg4 fg4
  go_region
  all_goals
    go_wp2
    go_end0
    obtain ⟨hf5, hr5, m7, m9, f7, f9, hg9, hat5, ne1, ne2⟩ := HE.out
    have hr9 := row_fr (row_fr (row_fr hr5 ((Fr.refl [] w5).drew) (by simp)) f7 (fun k hk hm => ne1 (by rw [hk]; simpa using hm))) f9 (fun k hk hm => ne2 (by rw [hk]; simpa using hm))
    refine ⟨rfl, g :: mo :: mi :: [gv], ⟨mo, mi, .slice (some ⟨gv, 0, none⟩) (ds.length + 1) cv, by simpa using hg9, ?_, ?_, by rw [ins_len]; exact hr9, H.out.2.2.2.2.1, h6, h7, h8, rfl⟩, ?_, ?_⟩
    · have := m7.fr f9 (by simpa using H.out.2.2.2.2.1)
      simpa [owners] using this
    · simpa [idsOf] using m9
    · exact (((hf5.mono (T := g :: mo :: mi :: vs.ownBlock.toList) (by
        intro x hx
        rcases List.mem_cons.mp hx with rfl | hx
        · simp
        · simp only [List.mem_cons]; exact .inr (.inr (.inr hx)))).drew).step f7 (by simp)).step f9 (by simp)
    · intro b hb
      simp only [List.mem_cons, List.not_mem_nil, or_false] at hb
      rcases hb with rfl | rfl | rfl | rfl
      · exact .inl (by simp)
      · exact .inl (by simp)
      · exact .inl (by simp)
      · rcases hat5 with hat5 | hat5
        · left
          rw [← hat5]; simp [Value.ownBlock]
        · exact .inr hat5
end Go.Proofs.YtpipgkglacmoeaaDoor

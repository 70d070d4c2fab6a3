/- Badges by contracts: Give. -/
import Derived.Test.YtpipgkglacmoeaaDoorBadge3
namespace Go.Proofs.YtpipgkglacmoeaaDoor
open Go.RowKit

section
variable {B : Nat} {w w' : World} {g : Nat} {ps : List (Int × Ent)} {ds : List Int} {nx : Int} {S T : List Nat}
theorem BR.next (h : BR B w g ps ds nx S) (nx' : Int) : BR B (w.setCell ⟨g, 3, none⟩ (.int .i64 nx')) g ps ds nx' S ∧ Fr S w (w.setCell ⟨g, 3, none⟩ (.int .i64 nx')) := by
  obtain ⟨mo, mi, vs, h1, h2, h3, h4, h5, h6, h7, h8, rfl⟩ := h
  have n1 : vs.ownBlock ≠ some g := row_blk_ne h4 h1 (by decide)
  have n4 : g ≠ mo := blk_map_ne h1 h2
  have n5 : g ≠ mi := blk_map_ne h1 h3
  have hf : Fr [g] w (w.setCell ⟨g, 3, none⟩ (.int .i64 nx')) := (Fr.refl _ w).setCell (.inl (by simp)) _
  refine ⟨⟨mo, mi, vs, by simpa using h1.set_ 3 (.int .i64 nx'), h2.fr hf (by simpa using Ne.symm n4), h3.fr hf (by simpa using Ne.symm n5), row_far h4 n1 _, h5, h6, h7, h8, rfl⟩, hf.mono (by simp)⟩
theorem BR.nxt (h : BR B w g ps ds nx S) : w.cell? ⟨g, 3, none⟩ = some (.int .i64 nx) ∧ g < w.heap.size ∧ w.frozen? ⟨g, 3, none⟩ = false := by
  obtain ⟨mo, mi, vs, h1, h2, h3, h4, h5, h6, h7, h8, rfl⟩ := h
  exact ⟨h1.at_ 3 rfl, h1.lt, h1.frozen 3⟩
theorem BR.mem (h : BR B w g ps ds nx S) : g ∈ S := by
  obtain ⟨mo, mi, vs, h1, h2, h3, h4, h5, h6, h7, h8, rfl⟩ := h
  simp
end
theorem Good.fresh {ps : List (Int × Ent)} {ds : List Int} {nx : Int} (h : Good ps ds nx) : nx ∉ ps.map (·.1) := fun hm => by
  have := h.pos nx ((h.same nx).mpr hm)
  omega
set_option maxRecDepth 100000 in
set_option maxHeartbeats 4000000 in
theorem give_ok {B : Nat} {w : World} {g : Nat} {ps : List (Int × Ent)} {ds : List Int} {nx : Int} {S : List Nat} (h : BR B w g ps ds nx S) (hB : B ≤ w.heap.size) (hG : Good ps ds nx) (hn : ds.length ≤ 100000) {e : Ent} (he : idOf ps e = none) (hx : nx ≤ 1073741824) :
    Calls Tryd.prog 9 #[.pointer (some ⟨g, 0, none⟩), encE e] w fun e' w' => e' = .returned (.tuple #[.int .i64 nx, .nilIface]) ∧ ∃ S', BR B w' g (ps ++ [(nx, e)]) (insL nx ds) (nx + 1) S' ∧ Stp S S' w w' := by
  obtain ⟨e1, e2⟩ := e
  have hnx := hG.nx1
  have HID := hide (fun W (hf : Fr [] w W) => id_calls (h.fr0 hf) (e1, e2))
  rw [he] at HID
  have H := hide h
  have HO := hide (fun W (hb : BR B W g ps ds (nx + 1) S) (hBW : B ≤ W.heap.size) => own_calls hb hBW hG.sorted hn (e1 := e1) (e2 := e2) hG.fresh (id_none he))
  obtain ⟨-, lg, -⟩ := h.nxt
  clear h he hG
  simp only [encE, Option.getD_none, Option.isSome_none] at HID ⊢
  go_enter Tryd.func9, Tryd.ntmps9
  go_wp2_with fail
  refine (HID.out _ ((Fr.refl [] w).alloc (.cells #[.int .i64 e1, .int .i64 e2] 27))).mono ?_
  rintro e w1 ⟨rfl, hf⟩
  have hbox := (Blk.new w 27 #[.int .i64 e1, .int .i64 e2]).fr0 hf
  have hf1 := ((Fr.refl [] w).alloc (.cells #[.int .i64 e1, .int .i64 e2] 27)).trans hf
  have h1 := H.out.fr0 hf1
  obtain ⟨c3, lg1, fg⟩ := h1.nxt
  have hn2 := h1.next (nx + 1)
  have nb : w.heap.size ≠ g := by omega
  have nb' := nb.symm
  have hb0 := hbox.at_ 0 (v := .int .i64 e1) rfl
  have hb1 := hbox.at_ 1 (v := .int .i64 e2) rfl
  have lb := hbox.lt
  have H1 := hide (And.intro hf1 hn2)
  clear hf hbox hf1 h1 hn2 HID
  go_wp2_with fail
  refine (HO.out _ H1.out.2.1 (Nat.le_trans hB (by have := H1.out.1.size; simpa [World.setCell] using this))).mono ?_
  rintro e w3 ⟨rfl, S', hb, hst⟩
  have H3 := hide (And.intro hb hst)
  clear hb hst
  go_wp2_with fail
  go_ret2
  refine ⟨rfl, S', H3.out.1, ?_, fun b hb => ?_⟩
  · exact (((H1.out.1.any S).trans H1.out.2.2).trans H3.out.2.1)
  · rcases H3.out.2.2 b hb with h | h
    · exact .inl h
    · right
      have := H1.out.1.size
      simp only [World.setCell, Array.size_modify] at h
      omega
set_option maxRecDepth 100000 in
set_option maxHeartbeats 4000000 in
theorem give_err {K : List Nat} {B0 : Nat} {ad : Nat → Addr} {B : Nat} {w : World} (hs : Sents K B0 w ad) (h9 : 9 ∈ K) (h6 : 6 ∈ K) {g : Nat} {ps : List (Int × Ent)} {ds : List Int} {nx : Int} {S : List Nat} (h : BR B w g ps ds nx S) {e : Ent} {k : Nat}
    (hk : idOf ps e ≠ none ∧ k = 9 ∨ idOf ps e = none ∧ 1073741824 < nx ∧ k = 6) :
    Calls Tryd.prog 9 #[.pointer (some ⟨g, 0, none⟩), encE e] w fun e' w' => ∃ v, e' = .returned (.tuple #[.int .i64 0, v]) ∧ NewErr w w' ad v k ∧ Fr [] w w' := by
  obtain ⟨e1, e2⟩ := e
  have HID := hide (fun W (hf : Fr [] w W) => id_calls (h.fr0 hf) (e1, e2))
  have H := hide (And.intro h hs)
  obtain ⟨-, lg, -⟩ := h.nxt
  have HW := hide (fun W k => wrong_calls (w := W) (ad := ad) k)
  clear h hs
  simp only [encE] at HID ⊢
  go_enter Tryd.func9, Tryd.ntmps9
  go_wp2_with fail
  refine (HID.out _ ((Fr.refl [] w).alloc (.cells #[.int .i64 e1, .int .i64 e2] 27))).mono ?_
  rintro e w1 ⟨rfl, hf⟩
  have hf1 := ((Fr.refl [] w).alloc (.cells #[.int .i64 e1, .int .i64 e2] 27)).trans hf
  have hs1 := H.out.2.fr0 hf1
  obtain ⟨c3, lg1, fg⟩ := (H.out.1.fr0 hf1).nxt
  have e9 := hs1.cell 9 h9
  have l9 := Nat.lt_of_lt_of_le (hs1.glob 9 h9) hs1.le
  have e6 := hs1.cell 6 h6
  have l6 := Nat.lt_of_lt_of_le (hs1.glob 6 h6) hs1.le
  change w1.cell? ⟨0, 0, none⟩ = some (sv (ad 9)) at e9
  change 0 < w1.heap.size at l9
  change w1.cell? ⟨3, 0, none⟩ = some (sv (ad 6)) at e6
  change 3 < w1.heap.size at l6
  have Hf1 := hide hf1
  clear hf hf1 hs1 HID
  rcases hk with ⟨hk, rfl⟩ | ⟨hk, hx, rfl⟩
  · obtain ⟨id, hid⟩ := Option.ne_none_iff_exists'.mp hk
    rw [hid, Option.getD_some, Option.isSome_some]
    clear hk hid
    go_wp2_with fail
    refine (HW.out _ 9).mono ?_
    rintro e w2 ⟨v, rfl, hn, hf⟩
    obtain ⟨t, a, rfl⟩ := hn.form
    have Hn := hide (And.intro hn hf)
    clear hn hf
    go_wp2_with fail
    go_ret2
    exact ⟨_, rfl, Hn.out.1.elder Hf1.out.size, Hf1.out.trans Hn.out.2⟩
  · rw [hk, Option.getD_none, Option.isSome_none]
    clear hk
    go_wp2_with fail
    refine (HW.out _ 6).mono ?_
    rintro e w2 ⟨v, rfl, hn, hf⟩
    obtain ⟨t, a, rfl⟩ := hn.form
    have Hn := hide (And.intro hn hf)
    clear hn hf
    go_wp2_with fail
    go_ret2
    exact ⟨_, rfl, Hn.out.1.elder Hf1.out.size, Hf1.out.trans Hn.out.2⟩
end Go.Proofs.YtpipgkglacmoeaaDoor

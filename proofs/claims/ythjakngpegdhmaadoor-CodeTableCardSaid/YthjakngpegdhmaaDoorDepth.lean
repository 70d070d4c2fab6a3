/- come and step of package code by contracts. -/
import Derived.Test.YthjakngpegdhmaaDoorDepP
import Derived.Test.YthjakngpegdhmaaDoorSame
import Derived.Test.YthjakngpegdhmaaDoorFrame
import Derived.Deep.DeepCutAuto
import Derived.Deep.CutBlock
namespace Go.Proofs.YthjakngpegdhmaaDoor
open Go.RowKit

abbrev nats (l : List Nat) : List Value := ints (l.map fun n : Nat => (n : Int))
theorem infoInt : (Tryd.prog.info? 3).map (fun i => (i.zero, i.size, i.bytes)) = some (some (.int .i64 0), 1, 8) := by kernel_rfl
/-- a walk at block g, its depths and what is still to do; all of it lies from block B on, the code below it -/
structure WkR (B : Nat) (w : World) (g : Nat) (A : Option Addr) (n c : Nat) (L : List Ins) (ds : List Int) (todo : List Nat) (S : List Nat) : Prop where
  ex : ∃ gD cD vT, Blk w g 78 #[.slice A n c, .slice (some ⟨gD, 0, none⟩) ds.length cD, vT] ∧ w.ownsRow B 3 1 (.slice (some ⟨gD, 0, none⟩) ds.length cD) ds.length (ints ds) ∧
    w.ownsRow B 3 1 vT todo.length (nats todo) ∧ vT.ownBlock ≠ some gD ∧ S = g :: gD :: vT.ownBlock.toList
  ge : B ≤ g
  rd : Reads w B 3 A n (L.flatMap encIns)
  ln : L.length = n
  rows : RowsT w
  rB : 1 < B
section
variable {B : Nat} {w w' : World} {g : Nat} {A : Option Addr} {n c : Nat} {L : List Ins} {ds : List Int} {todo : List Nat} {S : List Nat}
theorem WkR.lt (h : WkR B w g A n c L ds todo S) : ∀ b ∈ S, b < w.heap.size ∧ B ≤ b := by
  obtain ⟨⟨gD, cD, vT, hg, hd, ht, hne, rfl⟩, hB, -, -, -, -⟩ := h
  intro b hb
  simp only [List.mem_cons, Option.mem_toList] at hb
  rcases hb with rfl | rfl | hb
  · exact ⟨hg.lt, hB⟩
  · exact row_lt hd rfl
  · exact row_lt ht hb
theorem WkR.fr0 (h : WkR B w g A n c L ds todo S) (hB : B ≤ w.heap.size) (hf : Fr [] w w') : WkR B w' g A n c L ds todo S := by
  obtain ⟨⟨gD, cD, vT, hg, hd, ht, hne, rfl⟩, hB', hr, hl, hR, hRB⟩ := h
  exact ⟨⟨gD, cD, vT, hg.fr0 hf, row_fr hd hf (by simp), row_fr ht hf (by simp), hne, rfl⟩, hB', hr.below (hf.below (by simp) hB), hl, hR.fr0 hf, hRB⟩
end
theorem ds_get {ds : List Int} {p : Nat} (h : p < ds.length) : (ints ds)[p]? = some (.int .i64 (atL ds p)) := by
  simp [ints, atL, List.getD_eq_getElem?_getD, h]
def ComePost (B : Nat) (w : World) (g : Nat) (A : Option Addr) (n c : Nat) (L : List Ins) (S : List Nat) (r : List Int × List Nat × Bool) (e : Ending) (w' : World) : Prop :=
  e = .returned (.bool r.2.2) ∧ ∃ S', WkR B w' g A n c L r.1 r.2.1 S' ∧ Stp S S' w w'
theorem ints_set (ds : List Int) (p : Nat) (d : Int) : (ints ds).set p (.int .i64 d) = ints (ds.set p d) := by simp [ints, List.map_set]
/-- behind the store, the append and the store of come -/
theorem come_end {B : Nat} {w w2 w3 : World} {g gD cD p gT cT : Nat} {A : Option Addr} {n c : Nat} {L : List Ins} {ds : List Int} {todo : List Nat} {vT : Value} {d : Int} {o : Obj}
    (hg : Blk w g 78 #[.slice A n c, .slice (some ⟨gD, 0, none⟩) ds.length cD, vT]) (hd : w.ownsRow B 3 1 (.slice (some ⟨gD, 0, none⟩) ds.length cD) ds.length (ints ds)) (ht : w.ownsRow B 3 1 vT todo.length (nats todo)) (hne : vT.ownBlock ≠ some gD)
    (hBg : B ≤ g) (hr : Reads w B 3 A n (L.flatMap encIns)) (hln : L.length = n) (hR : RowsT w) (hRB : 1 < B) (hB : B ≤ w.heap.size) (gne : g ≠ gD) (hp : p < ds.length)
    (h2 : w2 = w.setCell ⟨gD, p, none⟩ (.int .i64 d))
    (hown : w3.ownsRow B 3 1 (.slice (some ⟨gT, 0, none⟩) (todo.length + 1) cT) (todo.length + 1) (nats todo ++ [.int .i64 p])) (hgrow : (w2.alloc o).grownBy w3 vT.ownBlock) (hat : vT.ownBlock = some gT ∨ gT = w2.heap.size + 1) :
    ∃ S', WkR B (w3.setCell ⟨g, 2, none⟩ (.slice (some ⟨gT, 0, none⟩) (todo.length + 1) cT)) g A n c L (ds.set p d) (todo ++ [p]) S' ∧ Stp (g :: gD :: vT.ownBlock.toList) S' w (w3.setCell ⟨g, 2, none⟩ (.slice (some ⟨gT, 0, none⟩) (todo.length + 1) cT)) := by
  subst h2
  have gT_ne : vT.ownBlock ≠ some g := row_blk_ne ht hg (by decide)
  have lg := hg.lt
  have lD : gD < w.heap.size := (row_lt hd rfl).1
  have hsz : (w.setCell ⟨gD, p, none⟩ (.int .i64 d)).heap.size = w.heap.size := by simp [World.setCell]
  have hf2 : Fr (g :: gD :: vT.ownBlock.toList) w (w.setCell ⟨gD, p, none⟩ (.int .i64 d)) := (Fr.refl _ w).setCell (.inl (by simp)) _
  have hf3 : Fr (g :: gD :: vT.ownBlock.toList) w w3 := (hf2.alloc o).grown hgrow fun k hk => .inl (by simp [hk])
  have hf4 := hf3.setCell (p := ⟨g, 2, none⟩) (.inl (by simp)) (.slice (some ⟨gT, 0, none⟩) (todo.length + 1) cT)
  have hge : ∀ b ∈ g :: gD :: vT.ownBlock.toList, B ≤ b := by
    intro b hb
    simp only [List.mem_cons, Option.mem_toList] at hb
    rcases hb with rfl | rfl | hb
    · exact hBg
    · exact (row_lt hd rfl).2
    · exact (row_lt ht hb).2
  have hbel : Below B w _ := hf4.below hge hB
  have hd2 : (w.setCell ⟨gD, p, none⟩ (.int .i64 d)).ownsRow B 3 1 (.slice (some ⟨gD, 0, none⟩) ds.length cD) ds.length (ints (ds.set p d)) := by
    have := row_store hd p (by omega) (.int .i64 d)
    rwa [ints_set] at this
  have hd3 := row_grown (row_fr hd2 ((Fr.refl [] _).alloc o) (by simp)) hgrow (fun b hb => by
    obtain rfl : gD = b := by simpa [Value.ownBlock] using hb
    exact hne)
  have hg3 := ((hg.far (p := ⟨gD, p, none⟩) gne (.int .i64 d)).alloc o).grown hgrow (fun e => gT_ne e.symm)
  have gTg : gT ≠ g := hat.elim (fun e e2 => gT_ne (by rw [e, e2])) fun e => by omega
  have gTD : gT ≠ gD := hat.elim (fun e e2 => hne (by rw [e, e2])) fun e => by omega
  refine ⟨g :: gD :: [gT], ⟨⟨gD, cD, .slice (some ⟨gT, 0, none⟩) (todo.length + 1) cT, ?_, ?_, ?_, ?_, by simp [Value.ownBlock]⟩, hBg, hr.below hbel, hln, hR.below hRB hbel, hRB⟩, hf4, ?_⟩
  · rw [List.length_set]; exact hg3.set_ 2 _
  · rw [List.length_set]
    exact row_far hd3 (by simpa [Value.ownBlock] using fun e => gne e.symm) _
  · rw [List.length_append, List.length_singleton]
    have e : nats (todo ++ [p]) = nats todo ++ [.int .i64 p] := by simp [nats, ints]
    rw [e]
    exact row_far hown (by simpa [Value.ownBlock] using gTg) _
  · simpa [Value.ownBlock] using gTD
  · intro b hb
    simp at hb
    rcases hb with rfl | rfl | rfl
    · exact .inl (by simp)
    · exact .inl (by simp)
    · exact hat.elim (fun e => .inl (by simp [e])) fun e => .inr (by omega)
set_option maxRecDepth 100000 in
set_option maxHeartbeats 1000000 in
theorem come_calls {B : Nat} {w : World} {g : Nat} {A : Option Addr} {n c : Nat} {L : List Ins} {ds : List Int} {todo : List Nat} {S : List Nat} (h : WkR B w g A n c L ds todo S) (hB : B ≤ w.heap.size) (p : Nat) (hp : p < ds.length) (hl : ds.length ≤ 1000000) (ht : todo.length ≤ 1000000) (d : Int) :
    Calls Tryd.prog 25 #[.pointer (some ⟨g, 0, none⟩), .int .i64 p, .int .i64 d] w (ComePost B w g A n c L S (comeP ds todo p d)) := by
  have hh := h
  obtain ⟨⟨gD, cD, vT, hg, hd, htd, hne, rfl⟩, hBg, hr, hln, hR, hRB⟩ := h
  have g1 := hg.at_ 1 (v := .slice (some ⟨gD, 0, none⟩) ds.length cD) rfl
  have g2 := hg.at_ 2 (v := vT) rfl
  have lg := hg.lt
  have k0 := row_cell hd (ds_get hp)
  have lD := (row_lt hd rfl).1
  have fD := row_frozen hd p
  have p0 : (0 : Int) ≤ (p : Int) := by omega
  have p1 : (p : Int) < (ds.length : Int) := by omega
  have gne : g ≠ gD := fun e => by
    have h1 := row_blk_ne hd hg (by decide)
    exact h1 (by rw [e]; rfl)
  by_cases e : atL ds p = -1
  · have ec : comeP ds todo p d = (ds.set p d, todo ++ [p], true) := if_pos e
    rw [ec]
    rw [e] at k0
    obtain ⟨i0, hi0, hz0, hs0, hb0⟩ := info_parts infoInt
    have HH := hide (And.intro hg (And.intro hd (And.intro htd (And.intro hne (And.intro hBg (And.intro hr (And.intro hln (And.intro hR (And.intro hRB (And.intro hB (And.intro gne hp)))))))))))
    have gTne : vT.ownBlock ≠ some g := row_blk_ne htd hg (by decide)
    have H2 := hide (And.intro (row_far htd (p := ⟨gD, p, none⟩) hne (.int .i64 d)) (And.intro (hg.far (p := ⟨gD, p, none⟩) gne (.int .i64 d)) (And.intro (row_store hd p (by omega) (.int .i64 d)) gTne)))
    clear hh hg hd htd hne hr hR e ec gTne
    go_enter Tryd.func25, Tryd.ntmps25
    go_upto_region 3 with (fail)
    obtain ⟨w2, hw2⟩ : ∃ w2, w2 = w.setCell ⟨gD, p, none⟩ (.int .i64 d) := ⟨_, rfl⟩
    rw [← hw2] at H2 ⊢
    have hs2 : w2.heap.size = w.heap.size := by rw [hw2]; simp [World.setCell]
    have Hw2 := hide hw2
    have hB2 : B ≤ w2.heap.size := by omega
    have Hs2 := hide hs2
    clear hw2 hs2 k0 g1 g2 lg fD lD
    have g2 := H2.out.2.1.at_ 2 (v := vT) rfl
    have lg := H2.out.2.1.lt
    go_upto_region 4 with (at_builtin; refine wpList_append_lies _ rfl _ _ _ rfl B 3 i0 _ 1 8 Tryd.underlying46 hi0 hz0 hs0 hb0 rfl (by omega) (vT) (todo.length) (nats todo) rfl ((H2.out.1.alloc _)) ⟨w2.heap.size, 0, none⟩ 1 1 [.int .i64 p] rfl rfl (World.news_of_block (cs := #[.int .i64 p]) (t := 3) (fr := (0, 0)) (Blk.new_at _ _ _ _ (by simp))) (by simp [Value.oneCell']) (by omega) (by unfold maxLen; omega) (by omega) (by simp; omega) (w2.heap.size + 1) (by simp) ?_; intro ag0 ac0 aw0 aown0 agrow0 aat0 alt0; have hgx := (H2.out.2.1.alloc (.cells #[.int .i64 p] 3)).grown agrow0 (fun e => H2.out.2.2.2 e.symm); have x1 := hgx.at_ 1 (v := .slice (some ⟨gD, 0, none⟩) ds.length cD) rfl; have x2 := hgx.at_ 2 (v := vT) rfl; have lx := hgx.lt; have fx := hgx.frozen 2; have hdx := row_grown (row_fr H2.out.2.2.1 ((Fr.refl [] _).alloc (.cells #[.int .i64 p] 3)) (by simp)) agrow0 (fun b hb => by (obtain rfl : gD = b := by simpa [Value.ownBlock] using hb); exact HH.out.2.2.2.1); have y1 := row_cell hdx (i := p) (u := .int .i64 d) (by rw [List.getElem?_set_self]; simpa [ints] using hp); have ly := (row_lt hdx rfl).1; clear hgx hdx)
    obtain ⟨hg, hd, htd, hne, hBg', hr, hln', hR, hRB', hB', gne', hp'⟩ := HH.out
    have HE := hide (come_end (d := d) hg hd htd hne hBg' hr hln' hR hRB' hB' gne' hp' Hw2.out aown0 agrow0 aat0)
    clear hg hd htd hne hr hR aown0 agrow0 aat0
    go_wp2_with fail
    go_ret
    exact ⟨ret_eq (by simp), HE.out⟩
  · have ec : comeP ds todo p d = (ds, todo, atL ds p == d) := if_neg e
    rw [ec]
    have eb : ((atL ds p) == -1) = false := by simpa using e
    have HH := hide hh
    clear hh hg hd htd hne hr hR e ec
    generalize atL ds p = x at *
    go_enter Tryd.func25, Tryd.ntmps25
    go_wp2_with fail
    go_ret
    exact ⟨rfl, _, HH.out, Fr.refl _ _, fun b hb => .inl hb⟩
end Go.Proofs.YthjakngpegdhmaaDoor

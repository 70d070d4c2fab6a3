/- blame.walk, blame.Leaves of errors with their leaves. -/
import Derived.Test.YtnncbmbepdkfnaaDoorTree8
namespace Go.Proofs.YtnncbmbepdkfnaaDoor
open Go.RowKit Go.Extern.Stop Go.Stop Go.Extern
theorem infoLeaf : (Tryd.prog.info? 110).map (fun i => (i.zero, i.size, i.bytes)) = some (some (.agg #[.string ⟨#[]⟩, .int .i64 0]), 2, 24) := by kernel_rfl
theorem row_newsK {w : World} {B size : Nat} {e : TypeId} {n cap g : Nat} {xs : List Value} (h : w.ownsRow B e size (.slice (some ⟨g, 0, none⟩) n cap) n xs) : ∀ j v, xs[j]? = some v → w.cell? ((⟨g, 0, none⟩ : Addr).add j) = some v := by
  intro j v hv
  have hadd : (⟨g, 0, none⟩ : Addr).add j = ⟨g, j, none⟩ := by unfold Addr.add; split <;> simp_all
  rw [hadd]
  exact row_cell h hv
theorem encL_one (x : Lf) : ∀ v ∈ encL x, v.oneCell' = true := by
  intro v hv
  simp only [encL, List.mem_cons, List.not_mem_nil, or_false] at hv
  rcases hv with rfl | rfl <;> rfl
def Bd (way : List ByteArray) (cs : List Ch) : Prop := ∀ c ∈ cs, way.length + c.1.length ≤ 1000 ∧ plen (way ++ c.1) ≤ 1000000
theorem HC.walk {B : Nat} {w : World} {ad : Nat → Addr} (hs : Sents All18 B w ad) {v : Value} {c : Ch} (h : HC w ad v c) {vw : Value} {way : List ByteArray} (hw : WR w vw way) (hb : Bd way [c]) : Calls Tryd.prog 32 #[vw, v] w (WalkPost w [leafOf way c]) := by
  obtain ⟨h1, h2, T, hT⟩ := h
  obtain ⟨b1, b2⟩ := hb c (by simp)
  exact walk_chain h1 h2 T hs hT hw b1 b2
set_option maxRecDepth 100000 in
set_option maxHeartbeats 2000000 in
theorem walk_sev {B : Nat} {w : World} {ad : Nat → Addr} (hs : Sents All18 B w ad) {g : Nat} {cs : List Ch} (h : HS w ad g cs) (hn : 0 < cs.length) (hl : cs.length ≤ 1000) {vw : Value} {way : List ByteArray} (hw : WR w vw way) (hb : Bd way cs) :
    Calls Tryd.prog 32 #[vw, se g] w (WalkPost w (cs.map (leafOf way))) := by
  have HU := hide (sunwrap_calls h (Fr.refl _ _) hn (by omega))
  have HWk := hide (fun W (hf : Fr [] w W) v c (hc : HC W ad v c) (hm : c ∈ cs) => hc.walk (hs.fr0 hf) (hw.fr0 hf) (fun c' hc' => by obtain rfl := List.mem_singleton.mp hc'; exact hb _ hm))
  have nS := notBS
  have iS := isSevS
  have n0 := eql_nil_false
  obtain ⟨i0, hi0, hz0, hs0, hb0⟩ := info_parts infoLeaf
  clear hs h hw hb
  go_enter Tryd.func32, Tryd.ntmps32
  go_wp2_with fail
  refine HU.out.mono ?_
  rintro e w1 ⟨g', c', us, rfl, hr, hul, huc, hf1⟩
  have H1 := hide (And.intro hr (And.intro hul (And.intro huc hf1)))
  have n1 : (0 : Int) ≤ (cs.length : Int) := by omega
  clear hr hul huc hf1
  go_wp2_with fail
  go_loopw [4, 32] (fun s4 s32 wr => ∃ i : Nat, i ≤ cs.length ∧ s32 = .int .i64 i ∧ wr.ownsRow w1.heap.size 110 2 s4 i (((cs.take i).map (leafOf way)).flatMap encL) ∧ Fr [] w1 wr) (fun _ s32 _ => cs.length - (intOf s32).toNat)
  case atStart => exact ⟨0, by omega, rfl, World.ownsRow_nil _ _ _ _, Fr.refl _ _⟩
  case round =>
    obtain ⟨i, hi, rfl, hrow, hf⟩ := hrel
    by_cases hil : i < cs.length
    · obtain ⟨hr, hul, huc, hf1⟩ := H1.out
      obtain ⟨v, hv⟩ : ∃ v, us[i]? = some v := ⟨_, List.getElem?_eq_getElem (by omega)⟩
      obtain ⟨c, hci⟩ : ∃ c, cs[i]? = some c := ⟨_, List.getElem?_eq_getElem hil⟩
      have hcell := row_cell hr hv
      have lg1 := World.block_lt_of_cell? w1 _ hcell
      have c0 := (hf.cell (p := ⟨g', i, none⟩) lg1 (by simp)).trans hcell
      have lg := Nat.lt_of_lt_of_le lg1 hf.size
      have hfw := hf1.trans hf
      have Hch := hide (HWk.out wr hfw v c ((huc i v c hv hci).fr0 hfw) (List.mem_of_getElem? hci))
      have i0' : (0 : Int) ≤ (i : Int) := by omega
      have i1 : (i : Int) < (cs.length : Int) := by omega
      have hform : ∃ t a, v = .iface t (.pointer (some a)) := by
        rcases (huc i v c hv hci).form with ⟨b, rfl⟩ | ⟨a, rfl⟩
        · exact ⟨_, _, rfl⟩
        · exact ⟨_, _, rfl⟩
      obtain ⟨t, a, rfl⟩ := hform
      have Hci := hide hci
      have HR := hide (And.intro hrow (And.intro hf hfw))
      clear hr hul huc hf1 hv hcell hfw hci hrow hf
      go_wp2_with fail
      refine Hch.out.mono ?_
      rintro e w2 ⟨v2, rfl, hr2, hf2⟩
      rw [List.length_singleton, List.flatMap_singleton] at hr2
      rcases row_form hr2 with ⟨_, h0, _⟩ | ⟨g2, cap2, rfl, _⟩
      · cases h0
      have hN := hide (row_newsK hr2)
      have hfw2 := HR.out.2.2.trans hf2
      have hszw := (HR.out.2.1.trans hf2).size
      have Hf2 := hide (And.intro (HR.out.2.1.trans hf2) hfw2)
      have Hrow := hide (row_fr HR.out.1 hf2 (by simp))
      have Hone := hide (encL_one (leafOf way c))
      clear hr2 hf2 hfw2
      go_wp2_with (at_builtin; refine wpList_append_lies _ rfl _ _ _ rfl w1.heap.size 110 i0 _ 2 24 Tryd.underlying52 hi0 hz0 hs0 hb0 rfl (by omega) (u4) (i) (((cs.take i).map (leafOf way)).flatMap encL) rfl (Hrow.out) (⟨g2, 0, none⟩) (1) (cap2) (encL (leafOf way c)) rfl (by rfl) (hN.out) (Hone.out) (by omega) (by unfold maxLen; omega) (by omega) (by first | omega | (simp; done) | (simp; omega)) (w2.heap.size) (by simp) ?_; intro ag0 ac0 aw0 aown0 agrow0 aat0 alt0)
      have hfin := hide (And.intro aown0 agrow0)
      have hv0 : ∀ x, u4.ownBlock = some x → w1.heap.size ≤ x := fun x hx => (row_lt Hrow.out hx).2
      go_roundw
      case rel =>
        refine ⟨i + 1, by omega, by go_num, ?_, ?_⟩
        · rw [List.take_add_one, Hci.out, List.map_append, List.flatMap_append]
          simpa using hfin.out.1
        · exact Hf2.out.1.grown hfin.out.2 fun x hx => .inr (hv0 x hx)
      case measure => simp [intOf]; omega
    · obtain rfl : i = cs.length := by omega
      rw [List.take_length] at hrow
      have HR := hide (And.intro hrow (H1.out.2.2.2.trans hf))
      clear hrow hf
      have i1 : ¬ (cs.length : Int) < (cs.length : Int) := by omega
      go_wp2_with fail
      go_ret
      refine ⟨_, rfl, ?_, HR.out.2⟩
      rw [List.length_map]
      exact row_base HR.out.1 H1.out.2.2.2.size
set_option maxRecDepth 100000 in
theorem walk_nil {w : World} (vw : Value) : Calls Tryd.prog 32 #[vw, .nilIface] w (WalkPost w []) := by
  go_enter Tryd.func32, Tryd.ntmps32
  go_wp2_with fail
  go_ret
  exact ⟨_, rfl, World.ownsRow_nil _ _ _ _, Fr.refl _ _⟩
theorem EV.walk {B : Nat} {w : World} {ad : Nat → Addr} (hs : Sents All18 B w ad) {v : Value} {cs : List Ch} (h : EV w ad v cs) (hl : cs.length ≤ 1000) {vw : Value} {way : List ByteArray} (hw : WR w vw way) (hb : Bd way cs) :
    Calls Tryd.prog 32 #[vw, v] w (WalkPost w (cs.map (leafOf way))) := by
  rcases h with ⟨rfl, rfl⟩ | ⟨c, rfl, h⟩ | ⟨hn, g, rfl, h⟩
  · exact walk_nil vw
  · exact h.walk hs hw hb
  · exact walk_sev hs h (by omega) hl hw hb
theorem WR.nil {w : World} : WR w (.slice none 0 0) [] := ⟨World.ownsRow_nil _ _ _ _, fun _ => rfl⟩
def LeavesPost (w : World) (ls : List Lf) (e : Ending) (w' : World) : Prop := ∃ v', e = .returned v' ∧ w'.ownsRow w.heap.size 110 2 v' ls.length (ls.flatMap encL) ∧ Fr [] w w'
set_option maxRecDepth 100000 in
theorem leaves_of {w : World} {v : Value} {ls : List Lf} (h : ∀ vw, WR w vw [] → Calls Tryd.prog 32 #[vw, v] w (WalkPost w ls)) : Calls Tryd.prog 20 #[v] w (WalkPost w ls) := by
  have H := hide (h _ WR.nil)
  clear h
  go_enter Tryd.func20, Tryd.ntmps20
  go_wp2_with fail
  refine H.out.mono ?_
  rintro e w1 ⟨v', rfl, hr, hf⟩
  have HR := hide (And.intro hr hf)
  clear hr hf
  go_wp2_with fail
  go_ret
  exact ⟨_, rfl, HR.out.1, HR.out.2⟩
/-- a leaf's path and number -/
def lf (c : Ch) : Lf := leafOf [] c
theorem EV.leaves {B : Nat} {w : World} {ad : Nat → Addr} (hs : Sents All18 B w ad) {v : Value} {cs : List Ch} (h : EV w ad v cs) (hl : cs.length ≤ 1000) (hb : Bd [] cs) : Calls Tryd.prog 20 #[v] w (WalkPost w (cs.map lf)) :=
  leaves_of fun _ hw => h.walk hs hl hw hb
theorem WE.leaves {B : Nat} {w : World} {ad : Nat → Addr} (hs : Sents All18 B w ad) {v : Value} {s : ByteArray} {cs : List Ch} (h : WE w ad v s cs) (hl : cs.length ≤ 1000) (hb : Bd [s] cs) : Calls Tryd.prog 20 #[v] w (WalkPost w (cs.map (leafOf [s]))) := by
  obtain ⟨b, v0, rfl, hbk, hv, hne⟩ := h
  rcases hv.form with ⟨-, h⟩ | ⟨-, t, a, rfl⟩
  · exact absurd h hne
  · exact leaves_of fun vw hw => walk_blame hbk hw (by simp) fun W hf vw' hw' => (hv.fr0 hf).walk (hs.fr0 hf) hl hw' hb
end Go.Proofs.YtnncbmbepdkfnaaDoor

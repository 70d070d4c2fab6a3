/- schema's flaws: named, isClean, component, resource. -/
import Derived.Test.YtnncbmbepdkfnaaDoorNote
import Derived.Test.YtnncbmbepdkfnaaDoorItoa2
import Derived.Test.YtnncbmbepdkfnaaDoorName
import Derived.Test.YtnncbmbepdkfnaaDoorFind
namespace Go.Proofs.YtnncbmbepdkfnaaDoor
open Go.RowKit
/-- the sentinels that schema's Check needs -/
structure K5 (K : List Nat) : Prop where
  m1 : 1 ∈ K
  m4 : 4 ∈ K
  m9 : 9 ∈ K
  m10 : 10 ∈ K
theorem Stp.pre {S S' : List Nat} {w w1 w2 : World} (hf : Fr [] w w1) (h : Stp S S' w1 w2) : Stp S S' w w2 :=
  ⟨(hf.any S).trans h.1, fun b hb => (h.2 b hb).imp id fun hge => Nat.le_trans hf.size hge⟩
theorem Stp.same {S : List Nat} {a b : World} (h : Fr [] a b) : Stp S S a b := ⟨h.any S, fun _ hb => .inl hb⟩
theorem Stp.trans {S S' S2 : List Nat} {a b c : World} (h : Stp S S' a b) (k : Stp S' S2 b c) : Stp S S2 a c :=
  ⟨h.1.step k.1 h.2, fun x hx => (k.2 x hx).elim (h.2 x) fun hge => .inr (Nat.le_trans h.1.size hge)⟩
theorem FI.ge {B : Nat} {w : World} {ad : Nat → Addr} {g : Nat} {S : List Nat} {cs : List Ch} (h : FI B w ad g S cs) : ∀ b ∈ S, B ≤ b := by
  obtain ⟨sl, vs, rfl, h2, h3, h4, h5⟩ := h
  intro b hb
  rcases List.mem_cons.1 hb with rfl | hb
  · exact h2
  · exact (row_lt h4 (by simpa using hb)).2
theorem FI.lt {B : Nat} {w : World} {ad : Nat → Addr} {g : Nat} {S : List Nat} {cs : List Ch} (h : FI B w ad g S cs) : ∀ b ∈ S, b < w.heap.size := by
  obtain ⟨sl, vs, rfl, h2, h3, h4, h5⟩ := h
  intro b hb
  rcases List.mem_cons.1 hb with rfl | hb
  · exact h3.lt
  · exact (row_lt h4 (by simpa using hb)).1
abbrev sName : ByteArray := ⟨#[110, 97, 109, 101]⟩
def nameFl (kind : ByteArray) (i : Nat) (nm : ByteArray) (taken : Bool) : List Ch :=
  if nameB nm = false then [([kind, digS i, sName], 10)] else if taken = true then [([kind, digS i, sName], 9)] else []
/-- what a flaw-noting call gives -/
def FPost (B : Nat) (ad : Nat → Addr) (g : Nat) (S : List Nat) (cs : List Ch) (w : World) (e : Ending) (w' : World) : Prop :=
  e = .returned (.tuple #[]) ∧ ∃ S', FI B w' ad g S' cs ∧ Stp S S' w w'
set_option maxRecDepth 100000 in
set_option maxHeartbeats 2000000 in
theorem named_calls {B : Nat} {w : World} {ad : Nat → Addr} {K : List Nat} (hK : K5 K) (hs : Sents K B w ad) {g : Nat} {S : List Nat} {cs : List Ch} (h : FI B w ad g S cs) (hl : cs.length ≤ 1000) (kind : ByteArray) {i : Nat} (hi : i < 100) (nm : ByteArray) (hn : nm.size ≤ 9223372036854775807) (taken : Bool) :
    Calls Tryd.prog 49 #[.pointer (some ⟨g, 0, none⟩), .string nm, .bool taken, .string kind, .int .i64 i] w (FPost B ad g S (cs ++ nameFl kind i nm taken) w) := by
  have HI := hide (fun W => itoa_calls (w := W) hi)
  have HN := hide (fun W => isname_calls (w := W) nm hn)
  have HH := hide (And.intro hs h)
  have HNote := hide (fun W (hf : Fr [] w W) k (h1 : 1 ≤ k) (h2 : k ≤ 18) => note_calls (h.fr0 hf) (by omega) h1 h2 (zs := [kind, digS i, sName]) (cap := 3) (b := W.heap.size - 1))
  clear hs h
  go_enter Tryd.func49, Tryd.ntmps49
  go_wp2_with fail
  refine (HI.out _).mono ?_
  rintro e w' ⟨rfl, rfl⟩
  go_wp2_with fail
  refine (HN.out _).mono ?_
  rintro e w1 ⟨rfl, hf⟩
  have H1 := hide hf
  have g10 := (HH.out.1.fr0 hf).cell 10 hK.m10
  have l10 := Nat.lt_of_lt_of_le ((HH.out.1.fr0 hf).glob 10 hK.m10) (HH.out.1.fr0 hf).le
  have g9 := (HH.out.1.fr0 hf).cell 9 hK.m9
  have l9 := Nat.lt_of_lt_of_le ((HH.out.1.fr0 hf).glob 9 hK.m9) (HH.out.1.fr0 hf).le
  have e10 : gOf 10 = 9 := rfl
  have e9 : gOf 9 = 8 := rfl
  rw [e10] at g10 l10
  rw [e9] at g9 l9
  clear hf HI HN e10 e9
  have hrow : Hid ((w1.alloc (.cells #[.string kind, .string (digS i), .string sName] 9)).ownsRow 0 9 1 (.slice (some ⟨(w1.alloc (.cells #[.string kind, .string (digS i), .string sName] 9)).heap.size - 1, 0, none⟩) 3 3) 3 ([kind, digS i, sName].map Value.string)) := hide (by
    have hb : Blk (w1.alloc (.cells #[.string kind, .string (digS i), .string sName] 9)) ((w1.alloc (.cells #[.string kind, .string (digS i), .string sName] 9)).heap.size - 1) 9 #[.string kind, .string (digS i), .string sName] := Blk.new_at _ _ _ _ (by simp)
    exact row_mk hb (Nat.zero_le _) (Nat.le_refl _) (by simp [maxLen]) rfl rfl)
  have hz : (w1.alloc (.cells #[.string kind, .string (digS i), .string sName] 9)).heap.size - 1 = w1.heap.size := by simp
  cases hb : nameB nm with
  | false =>
    have e1 : nameFl kind i nm taken = [([kind, digS i, sName], 10)] := by simp [nameFl, hb]
    have HX := hide (HNote.out _ (H1.out.alloc (.cells #[.string kind, .string (digS i), .string sName] 9)) 10 (by omega) (by omega) (by simp) hrow.out)
    rw [hz] at HX
    have E1 := hide e1
    clear e1 hb hz hrow HNote g9 l9
    go_wp2_with fail
    refine HX.out.mono ?_
    rintro e w2 ⟨rfl, S', hFI, hst⟩
    have H2 := hide (And.intro hFI (hst.pre (H1.out.alloc (.cells #[.string kind, .string (digS i), .string sName] 9))))
    clear hFI hst
    go_wp2_with fail
    go_end0
    exact ⟨rfl, S', by rw [E1.out]; exact H2.out.1, H2.out.2⟩
  | true =>
    cases taken with
    | true =>
      have e1 : nameFl kind i nm true = [([kind, digS i, sName], 9)] := by simp [nameFl, hb]
      have HX := hide (HNote.out _ (H1.out.alloc (.cells #[.string kind, .string (digS i), .string sName] 9)) 9 (by omega) (by omega) (by simp) hrow.out)
      rw [hz] at HX
      have E1 := hide e1
      clear e1 hb hz hrow HNote g10 l10
      go_wp2_with fail
      refine HX.out.mono ?_
      rintro e w2 ⟨rfl, S', hFI, hst⟩
      have H2 := hide (And.intro hFI (hst.pre (H1.out.alloc (.cells #[.string kind, .string (digS i), .string sName] 9))))
      clear hFI hst
      go_wp2_with fail
      go_end0
      exact ⟨rfl, S', by rw [E1.out]; exact H2.out.1, H2.out.2⟩
    | false =>
      have e1 : nameFl kind i nm false = [] := by simp [nameFl, hb]
      have E1 := hide e1
      clear e1 hb hz hrow HNote g9 l9 g10 l10
      go_wp2_with fail
      go_end0
      exact ⟨rfl, S, by rw [E1.out, List.append_nil]; exact HH.out.2.fr0 H1.out, Stp.same H1.out⟩
/-- no default beyond the width -/
def cleanB (x : Cp) : Bool := ([x.d0, x.d1, x.d2, x.d3].drop x.width.toNat).all (· == 0)
set_option maxRecDepth 100000 in
set_option maxHeartbeats 4000000 in
theorem clean_calls {w : World} (x : Cp) (h1 : 1 ≤ x.width) (h4 : x.width ≤ 4) : Calls Tryd.prog 51 #[aggC x] w fun e w' => e = .returned (.bool (cleanB x)) ∧ Fr [] w w' := by
  obtain ⟨nm, wd, ro, d0, d1, d2, d3⟩ := x
  dsimp only at h1 h4
  have hcl : cleanB ⟨nm, wd, ro, d0, d1, d2, d3⟩ = ([d0, d1, d2, d3].drop wd.toNat).all (· == 0) := rfl
  obtain ⟨k, rfl⟩ := Int.eq_ofNat_of_zero_le (a := wd) (by omega)
  have hk1 : 1 ≤ k := by omega
  have hk4 : k ≤ 4 := by omega
  rw [hcl, Int.toNat_natCast]
  clear hcl
  have hcell : ∀ (j : Nat) (x : Int), [d0, d1, d2, d3][j]? = some x → (w.alloc (.cells #[.string nm, .int .i64 k, .bool ro, .int .i64 d0, .int .i64 d1, .int .i64 d2, .int .i64 d3] 81)).cell? ⟨w.heap.size, 3 + j, none⟩ = some (.int .i64 x) := by
    intro j x hx
    refine (Blk.new w _ _).at_ (3 + j) ?_
    have : j < 4 := (List.getElem?_eq_some_iff.1 hx).1
    obtain rfl | rfl | rfl | rfl : j = 0 ∨ j = 1 ∨ j = 2 ∨ j = 3 := by omega
    all_goals
      obtain rfl := Option.some.inj hx
      rfl
  have hf : Fr [] w (w.alloc (.cells #[.string nm, .int .i64 k, .bool ro, .int .i64 d0, .int .i64 d1, .int .i64 d2, .int .i64 d3] 81)) := (Fr.refl _ _).alloc _
  have HC_ := hide (And.intro hcell hf)
  clear hcell hf
  by_cases hk : k = 4
  · subst hk
    go_enter Tryd.func51, Tryd.ntmps51
    go_wp2_with fail
    go_loopw [4, 10] (fun _ s10 wr => w.alloc (.cells #[.string nm, .int .i64 4, .bool ro, .int .i64 d0, .int .i64 d1, .int .i64 d2, .int .i64 d3] 81) = wr ∧ s10 = .int .i64 0) (fun _ _ _ => 0)
    case atStart => exact ⟨rfl, rfl⟩
    case round =>
      obtain ⟨rfl, rfl⟩ := hrel
      go_wp2_with fail
      go_ret
      exact ⟨rfl, HC_.out.2⟩
  · have hk' : ¬ 4 = k := fun h => hk h.symm
    have hk4' : (k : Int) ≠ 4 := by omega
    go_enter Tryd.func51, Tryd.ntmps51
    go_wp2_with fail
    go_loopw [4, 10] (fun _ s10 wr => w.alloc (.cells #[.string nm, .int .i64 k, .bool ro, .int .i64 d0, .int .i64 d1, .int .i64 d2, .int .i64 d3] 81) = wr ∧ ∃ i : Nat, i ≤ 4 - k ∧ s10 = .int .i64 i ∧ (([d0, d1, d2, d3].drop k).take i).all (· == 0) = true) (fun _ s10 _ => 4 - k - (intOf s10).toNat)
    case atStart => exact ⟨rfl, 0, by omega, rfl, by simp⟩
    case round =>
      obtain ⟨rfl, i, hi, rfl, hall⟩ := hrel
      have i0 : (0 : Int) ≤ (i : Int) := by omega
      have Hall := hide hall
      clear hall
      by_cases hin : i < 4 - k
      · have i1 : (i : Int) < ((4 - k : Nat) : Int) := by omega
        obtain ⟨x, hx⟩ : ∃ x, [d0, d1, d2, d3][k + i]? = some x := ⟨_, List.getElem?_eq_getElem (by simp; omega)⟩
        have c0 := HC_.out.1 (k + i) x hx
        rw [← Nat.add_assoc] at c0
        have hx2 : ([d0, d1, d2, d3].drop k)[i]? = some x := by rw [List.getElem?_drop]; exact hx
        have Hx := hide hx2
        clear hx hx2
        by_cases hz : x = 0
        · subst hz
          go_wp2_with fail
          go_roundw
          case rel =>
            refine ⟨trivial, i + 1, by omega, by go_num, ?_⟩
            rw [List.take_add_one, Hx.out, List.all_append, Hall.out]
            rfl
          case measure => simp [intOf]; omega
        · have Hz := hide hz
          go_wp2_with fail
          go_ret
          refine ⟨ret_eq (bool_eq ?_), HC_.out.2⟩
          symm
          rw [List.all_eq_false]
          exact ⟨x, List.mem_of_getElem? Hx.out, by simpa using Hz.out⟩
      · have hie : i = 4 - k := by omega
        have hn : ¬ (i : Int) < ((4 - k : Nat) : Int) := by omega
        have ha := Hall.out
        rw [List.take_of_length_le (by simp; omega)] at ha
        have Ha := hide ha
        clear ha hie
        go_wp2_with fail
        go_ret
        exact ⟨ret_eq (bool_eq Ha.out.symm), HC_.out.2⟩
end Go.Proofs.YtnncbmbepdkfnaaDoor

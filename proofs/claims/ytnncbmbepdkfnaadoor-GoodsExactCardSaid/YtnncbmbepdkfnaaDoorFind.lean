/- A schema's names: Find, Resource. -/
import Derived.Test.YtnncbmbepdkfnaaDoorTree9
import Derived.Test.YtnncbmbepdkfnaaDoorNest
namespace Go.Proofs.YtnncbmbepdkfnaaDoor
open Go.RowKit
structure Cp where
  name : ByteArray
  width : Int
  roll : Bool
  d0 : Int
  d1 : Int
  d2 : Int
  d3 : Int
def encC (x : Cp) : List Value := [.string x.name, .int .i64 x.width, .bool x.roll, .int .i64 x.d0, .int .i64 x.d1, .int .i64 x.d2, .int .i64 x.d3]
theorem encC_len (x : Cp) : (encC x).length = 7 := rfl
abbrev aggC (x : Cp) : Value := .agg #[.string x.name, .int .i64 x.width, .bool x.roll, .int .i64 x.d0, .int .i64 x.d1, .int .i64 x.d2, .int .i64 x.d3]
structure Rs where
  name : ByteArray
  val : Int
def encRs (x : Rs) : List Value := [.string x.name, .int .i64 x.val]
theorem encRs_len (x : Rs) : (encRs x).length = 2 := rfl
abbrev aggR (x : Rs) : Value := .agg #[.string x.name, .int .i64 x.val]
theorem eql_str (a b : ByteArray) (W : World) : (binOp .eql 9 (.string a) (.string b)).run Tryd.prog W = .ok (.bool (decide (a = b))) W := by
  have : a.toList = b.toList ↔ a = b := ⟨fun h => ByteArray.ext (Array.ext' (by rw [← ByteArray.toList_eq, ← ByteArray.toList_eq]; exact h)), fun h => by rw [h]⟩
  by_cases h : a = b <;> simp [go_sem, h, this]
theorem beq_str (a b : ByteArray) : (a.toList == b.toList) = decide (a = b) := by
  have : a.toList = b.toList ↔ a = b := ⟨fun h => ByteArray.ext (Array.ext' (by rw [← ByteArray.toList_eq, ← ByteArray.toList_eq]; exact h)), fun h => by rw [h]⟩
  rw [Bool.eq_iff_iff]
  simp [this]
theorem Reads.fr0 {w w' : World} {size n : Nat} {A : Option Addr} {xs : List Value} (h : Reads w w.heap.size size A n xs) (hf : Fr [] w w') : Reads w' w'.heap.size size A n xs :=
  ⟨h.1, fun hn => by
    obtain ⟨b, off, e, hb', hc⟩ := h.2 hn
    exact ⟨b, off, e, Nat.lt_of_lt_of_le hb' hf.size, fun j u hu => (hf.cell (p := ⟨b, off + j, none⟩) hb' (by simp)).trans (hc j u hu)⟩⟩
def findI (l : List ByteArray) (s : ByteArray) : Option Nat := l.findIdx? fun x => decide (x = s)
theorem find1_calls {w : World} (x : Cp) {p : Nat} {nm : ByteArray} (hp : w.cell? ⟨p, 0, none⟩ = some (.string nm)) :
    Calls Tryd.prog 60 #[aggC x, .pointer (some ⟨p, 0, none⟩)] w fun e w' => e = .returned (.bool (decide (x.name = nm))) ∧ Fr [] w w' := by
  have lp := World.block_lt_of_cell? w _ hp
  go_enter Tryd.func60, Tryd.ntmps60
  go_wp2_with fail
  go_ret
  exact ⟨ret_eq (bool_eq (beq_str _ _)), (Fr.refl _ _).alloc _⟩
theorem findI_take {l : List ByteArray} {s : ByteArray} {i : Nat} {x : ByteArray} (h : ∀ m < i, ∀ y, l[m]? = some y → y ≠ s) (hx : l[i]? = some x) (he : x = s) : findI l s = some i := by
  unfold findI
  rw [List.findIdx?_eq_some_iff_getElem]
  have hi := (List.getElem?_eq_some_iff.1 hx).1
  refine ⟨hi, by rw [(List.getElem?_eq_some_iff.1 hx).2]; simpa using he, fun j hj => ?_⟩
  simpa using h j hj _ (List.getElem?_eq_getElem (by omega))
theorem findI_none {l : List ByteArray} {s : ByteArray} (h : ∀ m < l.length, ∀ y, l[m]? = some y → y ≠ s) : findI l s = none := by
  unfold findI
  rw [List.findIdx?_eq_none_iff]
  intro x hx
  obtain ⟨i, hi⟩ := List.getElem?_of_mem hx
  simpa using h i (List.getElem?_eq_some_iff.1 hi).1 x hi
def idxOf (o : Option Nat) : Int := match o with
  | some i => i
  | none => -1
set_option maxRecDepth 100000 in
set_option maxHeartbeats 2000000 in
theorem idxc_calls {w : World} {A : Option Addr} {n c : Nat} {cs : List Cp} (hr : Reads w w.heap.size 7 A n (cs.flatMap encC)) (hl : cs.length = n) (hn : n ≤ 1000) {p : Nat} {nm : ByteArray} (hp : w.cell? ⟨p, 0, none⟩ = some (.string nm)) :
    Calls Tryd.prog 59 #[.slice A n c, .func (.func 60) #[] #[.pointer (some ⟨p, 0, none⟩)]] w fun e w' => e = .returned (.int .i64 (idxOf (findI (cs.map (·.name)) nm))) ∧ Fr [] w w' := by
  have HR := hide (And.intro hr (And.intro hl hp))
  clear hr hl hp
  go_enter Tryd.func59, Tryd.ntmps59
  go_wp2_with fail
  go_loopw [5, 8] (fun s5 s8 wr => ∃ i : Nat, i ≤ n ∧ s8 = .int .i64 i ∧ (∀ m < i, ∀ y, (cs.map (·.name))[m]? = some y → y ≠ nm) ∧ Fr [] w wr) (fun _ s8 _ => n - (intOf s8).toNat)
  case atStart => exact ⟨0, by omega, rfl, fun m hm => by omega, Fr.refl _ _⟩
  case round =>
    obtain ⟨i, hi, rfl, hno, hf⟩ := hrel
    have i0 : (0 : Int) ≤ (i : Int) := by omega
    have Hf := hide (And.intro hf hno)
    by_cases hin : i < n
    · have i1 : (i : Int) < (n : Int) := by omega
      obtain ⟨x, hx⟩ : ∃ x, cs[i]? = some x := ⟨cs[i]'(by have := HR.out.2.1; omega), by simp⟩
      obtain ⟨b, off, rfl, hb, hcl⟩ := HR.out.1.at_ encC_len hx HR.out.2.1
      have hcl' := fun (j : Nat) u (hu : (encC x)[j]? = some u) => (hf.cell (p := ⟨b, off + (i * 7 + j), none⟩) hb (by simp)).trans (hcl j u hu)
      have a0 := hcl' 0 _ rfl
      have a1 := hcl' 1 _ rfl
      have a2 := hcl' 2 _ rfl
      have a3 := hcl' 3 _ rfl
      have a4 := hcl' 4 _ rfl
      have a5 := hcl' 5 _ rfl
      have a6 := hcl' 6 _ rfl
      rw [Nat.add_zero] at a0
      rw [← Nat.add_assoc] at a1 a2 a3 a4 a5 a6
      have HF := hide (find1_calls x ((hf.cell (World.block_lt_of_cell? w _ HR.out.2.2) (by simp)).trans HR.out.2.2))
      have Hx := hide hx
      clear hcl hcl' hx hno hf
      by_cases he : x.name = nm
      · rw [decide_eq_true he] at HF
        have He := hide he
        clear he
        go_wp2_with fail
        refine HF.out.mono ?_
        rintro e w2 ⟨rfl, hf2⟩
        have H2 := hide (Hf.out.1.trans hf2)
        clear hf2
        go_wp2_with fail
        go_ret
        refine ⟨?_, H2.out⟩
        rw [findI_take Hf.out.2 (by rw [List.getElem?_map, Hx.out]; rfl) He.out]
        rfl
      · rw [decide_eq_false he] at HF
        have He := hide he
        clear he
        go_wp2_with fail
        refine HF.out.mono ?_
        rintro e w2 ⟨rfl, hf2⟩
        have H2 := hide (Hf.out.1.trans hf2)
        clear hf2
        go_wp2_with fail
        go_roundw
        case rel =>
          refine ⟨i + 1, by omega, by go_num, fun m hm y hy => ?_, H2.out⟩
          rcases Nat.lt_or_ge m i with hlt | hge
          · exact Hf.out.2 m hlt y hy
          · obtain rfl : m = i := by omega
            rw [List.getElem?_map, Hx.out] at hy
            obtain rfl : x.name = y := by simpa using hy
            exact He.out
        case measure => simp [intOf]; omega
    · have hin' : ¬ (i : Int) < (n : Int) := by omega
      have hie : i = n := by omega
      have hno2 := hno
      have hnone := findI_none (l := cs.map (·.name)) (s := nm) (fun m hm y hy => hno2 m (by rw [List.length_map, HR.out.2.1] at hm; omega) y hy)
      have Hn := hide hnone
      clear hno hno2 hf hie hnone
      go_wp2_with fail
      go_ret
      refine ⟨?_, Hf.out.1⟩
      rw [Hn.out]
      rfl
def isAt (o : Option Nat) : Value := .tuple #[.int .i64 (o.getD 0 : Nat), .bool o.isSome]
set_option maxRecDepth 100000 in
set_option maxHeartbeats 2000000 in
theorem find_calls {w : World} {A : Option Addr} {n c : Nat} {cs : List Cp} (hr : Reads w w.heap.size 7 A n (cs.flatMap encC)) (hl : cs.length = n) (hn : n ≤ 1000) (A2 : Option Addr) (n2 c2 : Nat) (nm : ByteArray) :
    Calls Tryd.prog 48 #[.agg #[.slice A n c, .slice A2 n2 c2], .string nm] w fun e w' => e = .returned (isAt (findI (cs.map (·.name)) nm)) ∧ Fr [] w w' := by
  have HI := hide (fun W (hf : Fr [] w W) p (hp : W.cell? ⟨p, 0, none⟩ = some (.string nm)) => idxc_calls (c := c) (hr.fr0 hf) hl hn hp)
  clear hr
  go_enter Tryd.func48, Tryd.ntmps48
  go_wp2_with fail
  refine (HI.out _ (((Fr.refl [] w).alloc (.cells #[.slice A n c, .slice A2 n2 c2] 32)).alloc (.cells #[.string nm] 9)) _ ?_).mono ?_
  · have := (Blk.new (w.alloc (.cells #[.slice A n c, .slice A2 n2 c2] 32)) 9 #[.string nm]).at_ 0 (v := .string nm) rfl
    rwa [World.size_alloc] at this
  rintro e w2 ⟨rfl, hf⟩
  have Hf := hide ((((Fr.refl [] w).alloc _).alloc _).trans hf)
  clear hf
  have hib : ∀ i, findI (cs.map (·.name)) nm = some i → i < 1000 := by
    intro i hfi
    unfold findI at hfi
    have := (List.findIdx?_eq_some_iff_getElem.1 hfi).1
    rw [List.length_map] at this
    omega
  clear HI
  cases hfi : findI (cs.map (·.name)) nm with
  | none =>
    simp only [idxOf]
    have Hfi := hide hfi
    clear hfi hib
    go_wp2_with fail
    go_ret2
    refine ⟨?_, Hf.out⟩
    rw [Hfi.out]
    rfl
  | some i =>
    simp only [idxOf]
    have Hfi := hide hfi
    have hib := hib i hfi
    clear hfi
    have i0 : (0 : Int) ≤ (i : Int) := by omega
    go_wp2_with fail
    go_ret2
    refine ⟨?_, Hf.out⟩
    rw [Hfi.out]
    rfl
theorem res1_calls {w : World} (x : Rs) {p : Nat} {nm : ByteArray} (hp : w.cell? ⟨p, 0, none⟩ = some (.string nm)) :
    Calls Tryd.prog 64 #[aggR x, .pointer (some ⟨p, 0, none⟩)] w fun e w' => e = .returned (.bool (decide (x.name = nm))) ∧ Fr [] w w' := by
  have lp := World.block_lt_of_cell? w _ hp
  go_enter Tryd.func64, Tryd.ntmps64
  go_wp2_with fail
  go_ret
  exact ⟨ret_eq (bool_eq (beq_str _ _)), (Fr.refl _ _).alloc _⟩
set_option maxRecDepth 100000 in
set_option maxHeartbeats 2000000 in
theorem idxr_calls {w : World} {A : Option Addr} {n c : Nat} {cs : List Rs} (hr : Reads w w.heap.size 2 A n (cs.flatMap encRs)) (hl : cs.length = n) (hn : n ≤ 1000) {p : Nat} {nm : ByteArray} (hp : w.cell? ⟨p, 0, none⟩ = some (.string nm)) :
    Calls Tryd.prog 63 #[.slice A n c, .func (.func 64) #[] #[.pointer (some ⟨p, 0, none⟩)]] w fun e w' => e = .returned (.int .i64 (idxOf (findI (cs.map (·.name)) nm))) ∧ Fr [] w w' := by
  have HR := hide (And.intro hr (And.intro hl hp))
  clear hr hl hp
  go_enter Tryd.func63, Tryd.ntmps63
  go_wp2_with fail
  go_loopw [5, 8] (fun s5 s8 wr => ∃ i : Nat, i ≤ n ∧ s8 = .int .i64 i ∧ (∀ m < i, ∀ y, (cs.map (·.name))[m]? = some y → y ≠ nm) ∧ Fr [] w wr) (fun _ s8 _ => n - (intOf s8).toNat)
  case atStart => exact ⟨0, by omega, rfl, fun m hm => by omega, Fr.refl _ _⟩
  case round =>
    obtain ⟨i, hi, rfl, hno, hf⟩ := hrel
    have i0 : (0 : Int) ≤ (i : Int) := by omega
    have Hf := hide (And.intro hf hno)
    by_cases hin : i < n
    · have i1 : (i : Int) < (n : Int) := by omega
      obtain ⟨x, hx⟩ : ∃ x, cs[i]? = some x := ⟨cs[i]'(by have := HR.out.2.1; omega), by simp⟩
      obtain ⟨b, off, rfl, hb, hcl⟩ := HR.out.1.at_ encRs_len hx HR.out.2.1
      have hcl' := fun (j : Nat) u (hu : (encRs x)[j]? = some u) => (hf.cell (p := ⟨b, off + (i * 2 + j), none⟩) hb (by simp)).trans (hcl j u hu)
      have a0 := hcl' 0 _ rfl
      have a1 := hcl' 1 _ rfl
      rw [Nat.add_zero] at a0
      rw [← Nat.add_assoc] at a1
      have HF := hide (res1_calls x ((hf.cell (World.block_lt_of_cell? w _ HR.out.2.2) (by simp)).trans HR.out.2.2))
      have Hx := hide hx
      clear hcl hcl' hx hno hf
      by_cases he : x.name = nm
      · rw [decide_eq_true he] at HF
        have He := hide he
        clear he
        go_wp2_with fail
        refine HF.out.mono ?_
        rintro e w2 ⟨rfl, hf2⟩
        have H2 := hide (Hf.out.1.trans hf2)
        clear hf2
        go_wp2_with fail
        go_ret
        refine ⟨?_, H2.out⟩
        rw [findI_take Hf.out.2 (by rw [List.getElem?_map, Hx.out]; rfl) He.out]
        rfl
      · rw [decide_eq_false he] at HF
        have He := hide he
        clear he
        go_wp2_with fail
        refine HF.out.mono ?_
        rintro e w2 ⟨rfl, hf2⟩
        have H2 := hide (Hf.out.1.trans hf2)
        clear hf2
        go_wp2_with fail
        go_roundw
        case rel =>
          refine ⟨i + 1, by omega, by go_num, fun m hm y hy => ?_, H2.out⟩
          rcases Nat.lt_or_ge m i with hlt | hge
          · exact Hf.out.2 m hlt y hy
          · obtain rfl : m = i := by omega
            rw [List.getElem?_map, Hx.out] at hy
            obtain rfl : x.name = y := by simpa using hy
            exact He.out
        case measure => simp [intOf]; omega
    · have hin' : ¬ (i : Int) < (n : Int) := by omega
      have hie : i = n := by omega
      have hno2 := hno
      have hnone := findI_none (l := cs.map (·.name)) (s := nm) (fun m hm y hy => hno2 m (by rw [List.length_map, HR.out.2.1] at hm; omega) y hy)
      have Hn := hide hnone
      clear hno hno2 hf hie hnone
      go_wp2_with fail
      go_ret
      refine ⟨?_, Hf.out.1⟩
      rw [Hn.out]
      rfl
set_option maxRecDepth 100000 in
set_option maxHeartbeats 2000000 in
theorem res_calls {w : World} {A : Option Addr} {n c : Nat} {cs : List Rs} (hr : Reads w w.heap.size 2 A n (cs.flatMap encRs)) (hl : cs.length = n) (hn : n ≤ 1000) (A2 : Option Addr) (n2 c2 : Nat) (nm : ByteArray) :
    Calls Tryd.prog 52 #[.agg #[.slice A2 n2 c2, .slice A n c], .string nm] w fun e w' => e = .returned (isAt (findI (cs.map (·.name)) nm)) ∧ Fr [] w w' := by
  have HI := hide (fun W (hf : Fr [] w W) p (hp : W.cell? ⟨p, 0, none⟩ = some (.string nm)) => idxr_calls (c := c) (hr.fr0 hf) hl hn hp)
  clear hr
  go_enter Tryd.func52, Tryd.ntmps52
  go_wp2_with fail
  refine (HI.out _ (((Fr.refl [] w).alloc (.cells #[.slice A2 n2 c2, .slice A n c] 32)).alloc (.cells #[.string nm] 9)) _ ?_).mono ?_
  · have := (Blk.new (w.alloc (.cells #[.slice A2 n2 c2, .slice A n c] 32)) 9 #[.string nm]).at_ 0 (v := .string nm) rfl
    rwa [World.size_alloc] at this
  rintro e w2 ⟨rfl, hf⟩
  have Hf := hide ((((Fr.refl [] w).alloc _).alloc _).trans hf)
  clear hf
  have hib : ∀ i, findI (cs.map (·.name)) nm = some i → i < 1000 := by
    intro i hfi
    unfold findI at hfi
    have := (List.findIdx?_eq_some_iff_getElem.1 hfi).1
    rw [List.length_map] at this
    omega
  clear HI
  cases hfi : findI (cs.map (·.name)) nm with
  | none =>
    simp only [idxOf]
    have Hfi := hide hfi
    clear hfi hib
    go_wp2_with fail
    go_ret2
    refine ⟨?_, Hf.out⟩
    rw [Hfi.out]
    rfl
  | some i =>
    simp only [idxOf]
    have Hfi := hide hfi
    have hib := hib i hfi
    clear hfi
    have i0 : (0 : Int) ≤ (i : Int) := by omega
    go_wp2_with fail
    go_ret2
    refine ⟨?_, Hf.out⟩
    rw [Hfi.out]
    rfl
end Go.Proofs.YtnncbmbepdkfnaaDoor

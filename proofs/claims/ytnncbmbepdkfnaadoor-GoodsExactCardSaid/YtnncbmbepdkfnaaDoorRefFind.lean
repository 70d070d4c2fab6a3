/- The reference's Find, Resource, IsName, Digits. -/
import Derived.Test.YtnncbmbepdkfnaaDoorComp
import Derived.Deep.QuietTactic
namespace Go.Proofs.YtnncbmbepdkfnaaDoor
open Go.RowKit
set_option maxRecDepth 100000 in
set_option maxHeartbeats 2000000 in
theorem rfind_calls {w : World} {A : Option Addr} {n c : Nat} {cs : List Cp} (hr : Reads w w.heap.size 7 A n (cs.flatMap encC)) (hl : cs.length = n) (hn : n ≤ 1000) (A2 : Option Addr) (n2 c2 : Nat) (nm : ByteArray) :
    Calls Tryd.prog 35 #[.agg #[.slice A n c, .slice A2 n2 c2], .string nm] w fun e w' => e = .returned (isAt (findI (cs.map (·.name)) nm)) ∧ Fr [] w w' := by
  have H0 := hide (And.intro hr hl)
  clear hr hl
  go_enter Tryd.func35, Tryd.ntmps35
  go_upto_region 1 with (fail)
  have hb := Blk.new w 32 #[.slice A n c, .slice A2 n2 c2]
  have hf1 : Fr [] w (w.alloc (.cells #[.slice A n c, .slice A2 n2 c2] 32)) := (Fr.refl _ _).alloc _
  generalize w.alloc (.cells #[.slice A n c, .slice A2 n2 c2] 32) = w1 at *
  have p0 := hb.at_ 0 (v := .slice A n c) rfl
  have lp := hb.lt
  have HF := hide hf1
  clear hb hf1
  go_wp2_with fail
  go_loopw [6] (fun s6 wr => w1 = wr ∧ ∃ i : Nat, i ≤ n ∧ s6 = .int .i64 i ∧ ∀ m < i, ∀ y, (cs.map (·.name))[m]? = some y → y ≠ nm) (fun s6 _ => n - (intOf s6).toNat)
  case atStart => exact ⟨rfl, 0, by omega, rfl, fun m hm => by omega⟩
  case round =>
    obtain ⟨rfl, i, hi, rfl, hsm⟩ := hrel
    have i0 : (0 : Int) ≤ (i : Int) := by omega
    by_cases hin : i < n
    · have i1 : (i : Int) < (n : Int) := by omega
      obtain ⟨x, hx⟩ : ∃ x, cs[i]? = some x := ⟨_, List.getElem?_eq_getElem (by rw [H0.out.2]; exact hin)⟩
      have hxn : (cs.map (·.name))[i]? = some x.name := by rw [List.getElem?_map, hx]; rfl
      obtain ⟨b, off, rfl, hbB, hcl⟩ := H0.out.1.at_ encC_len hx H0.out.2
      have a0 := (HF.out.cell (p := ⟨b, off + (i * 7 + 0), none⟩) hbB (by simp)).trans (hcl 0 (.string x.name) rfl)
      rw [Nat.add_zero] at a0
      have Hsm := hide (And.intro hsm hxn)
      clear hcl hx hsm hxn
      by_cases he : x.name = nm
      · have hd : (x.name.toList == nm.toList) = true := by rw [beq_str]; exact decide_eq_true he
        have hfi := findI_take Hsm.out.1 Hsm.out.2 he
        have Hfi := hide hfi
        clear hfi he
        go_wp2_with fail
        go_ret2
        exact ⟨by rw [Hfi.out]; rfl, HF.out⟩
      · have hd : (x.name.toList == nm.toList) = false := by rw [beq_str]; exact decide_eq_false he
        have He := hide he
        clear he
        go_wp2_with fail
        go_roundw
        case rel =>
          refine ⟨trivial, i + 1, by omega, by go_num, fun m hm y hy => ?_⟩
          rcases Nat.lt_or_ge m i with hlt | hge
          · exact Hsm.out.1 m hlt y hy
          · obtain rfl : m = i := by omega
            obtain rfl := Option.some.inj (Hsm.out.2.symm.trans hy)
            exact He.out
        case measure => simp [intOf]; omega
    · have i1 : ¬ (i : Int) < (n : Int) := by omega
      have hfi : findI (cs.map (·.name)) nm = none := findI_none fun m hm y hy => hsm m (by rw [List.length_map, H0.out.2] at hm; omega) y hy
      have Hfi := hide hfi
      clear hsm hfi
      go_wp2_with fail
      go_ret2
      exact ⟨by rw [Hfi.out]; rfl, HF.out⟩
set_option maxRecDepth 100000 in
set_option maxHeartbeats 2000000 in
theorem rres_calls {w : World} {A : Option Addr} {n c : Nat} {cs : List Rs} (hr : Reads w w.heap.size 2 A n (cs.flatMap encRs)) (hl : cs.length = n) (hn : n ≤ 1000) (A2 : Option Addr) (n2 c2 : Nat) (nm : ByteArray) :
    Calls Tryd.prog 26 #[.agg #[.slice A2 n2 c2, .slice A n c], .string nm] w fun e w' => e = .returned (isAt (findI (cs.map (·.name)) nm)) ∧ Fr [] w w' := by
  have H0 := hide (And.intro hr hl)
  clear hr hl
  go_enter Tryd.func26, Tryd.ntmps26
  go_upto_region 1 with (fail)
  have hb := Blk.new w 32 #[.slice A2 n2 c2, .slice A n c]
  have hf1 : Fr [] w (w.alloc (.cells #[.slice A2 n2 c2, .slice A n c] 32)) := (Fr.refl _ _).alloc _
  generalize w.alloc (.cells #[.slice A2 n2 c2, .slice A n c] 32) = w1 at *
  have p0 := hb.at_ 1 (v := .slice A n c) rfl
  have lp := hb.lt
  have HF := hide hf1
  clear hb hf1
  go_wp2_with fail
  go_loopw [6] (fun s6 wr => w1 = wr ∧ ∃ i : Nat, i ≤ n ∧ s6 = .int .i64 i ∧ ∀ m < i, ∀ y, (cs.map (·.name))[m]? = some y → y ≠ nm) (fun s6 _ => n - (intOf s6).toNat)
  case atStart => exact ⟨rfl, 0, by omega, rfl, fun m hm => by omega⟩
  case round =>
    obtain ⟨rfl, i, hi, rfl, hsm⟩ := hrel
    have i0 : (0 : Int) ≤ (i : Int) := by omega
    by_cases hin : i < n
    · have i1 : (i : Int) < (n : Int) := by omega
      obtain ⟨x, hx⟩ : ∃ x, cs[i]? = some x := ⟨_, List.getElem?_eq_getElem (by rw [H0.out.2]; exact hin)⟩
      have hxn : (cs.map (·.name))[i]? = some x.name := by rw [List.getElem?_map, hx]; rfl
      obtain ⟨b, off, rfl, hbB, hcl⟩ := H0.out.1.at_ encRs_len hx H0.out.2
      have a0 := (HF.out.cell (p := ⟨b, off + (i * 2 + 0), none⟩) hbB (by simp)).trans (hcl 0 (.string x.name) rfl)
      rw [Nat.add_zero] at a0
      have Hsm := hide (And.intro hsm hxn)
      clear hcl hx hsm hxn
      by_cases he : x.name = nm
      · have hd : (x.name.toList == nm.toList) = true := by rw [beq_str]; exact decide_eq_true he
        have hfi := findI_take Hsm.out.1 Hsm.out.2 he
        have Hfi := hide hfi
        clear hfi he
        go_wp2_with fail
        go_ret2
        exact ⟨by rw [Hfi.out]; rfl, HF.out⟩
      · have hd : (x.name.toList == nm.toList) = false := by rw [beq_str]; exact decide_eq_false he
        have He := hide he
        clear he
        go_wp2_with fail
        go_roundw
        case rel =>
          refine ⟨trivial, i + 1, by omega, by go_num, fun m hm y hy => ?_⟩
          rcases Nat.lt_or_ge m i with hlt | hge
          · exact Hsm.out.1 m hlt y hy
          · obtain rfl : m = i := by omega
            obtain rfl := Option.some.inj (Hsm.out.2.symm.trans hy)
            exact He.out
        case measure => simp [intOf]; omega
    · have i1 : ¬ (i : Int) < (n : Int) := by omega
      have hfi : findI (cs.map (·.name)) nm = none := findI_none fun m hm y hy => hsm m (by rw [List.length_map, H0.out.2] at hm; omega) y hy
      have Hfi := hide hfi
      clear hsm hfi
      go_wp2_with fail
      go_ret2
      exact ⟨by rw [Hfi.out]; rfl, HF.out⟩
/-! ### IsName -/
theorem index_str (s : ByteArray) (i : Nat) (x : UInt8) (h : s.data.toList[i]? = some x) (W : World) : (Instr.index 9 (.string s) (.int .i64 (i : Int))).run Tryd.prog W = .ok (.int .u8 ((x.toNat : Nat) : Int)) W := by
  rw [Array.getElem?_toList] at h
  obtain ⟨hj, rfl⟩ := Array.getElem?_eq_some_iff.1 h
  have hs : i < s.size := hj
  rw [run_index_string (h := Tryd.underlying9), dif_pos (by omega)]
  rfl
theorem nameB_false {s : ByteArray} (h : s.size < 1 ∨ 8 < s.size) : nameB s = false := by
  unfold nameB
  rcases h with h | h
  · rw [decide_eq_false (show ¬ 1 ≤ s.size by omega)]; simp
  · rw [decide_eq_false (show ¬ s.size ≤ 8 by omega)]; simp
theorem nameB_bad {s : ByteArray} {i : Nat} {x : UInt8} (h : s.data.toList[i]? = some x) (hx : low x = false) : nameB s = false := by
  unfold nameB
  rw [show s.data.toList.all low = false from List.all_eq_false.2 ⟨x, List.mem_of_getElem? h, by simp [hx]⟩]
  rfl
set_option maxRecDepth 100000 in
set_option maxHeartbeats 2000000 in
theorem risname_calls {w : World} (s : ByteArray) (hs : s.size ≤ 9223372036854775807) :
    Calls Tryd.prog 34 #[.string s] w fun e w' => e = .returned (.bool (nameB s)) ∧ w = w' := by
  by_cases h1 : s.size < 1
  · rw [nameB_false (.inl h1)]
    have h1' : (s.size : Int) < 1 := by omega
    go_enter Tryd.func34, Tryd.ntmps34
    go_wp2_with fail
    go_ret
    exact ⟨rfl, rfl⟩
  by_cases h8 : 8 < s.size
  · rw [nameB_false (.inr h8)]
    have h1' : ¬ (s.size : Int) < 1 := by omega
    have h8' : (8 : Int) < (s.size : Int) := by omega
    go_enter Tryd.func34, Tryd.ntmps34
    go_wp2_with fail
    go_ret
    exact ⟨rfl, rfl⟩
  have h1' : ¬ (s.size : Int) < 1 := by omega
  have h8' : ¬ (8 : Int) < (s.size : Int) := by omega
  have hsz : s.data.toList.length = s.size := by rw [Array.length_toList]; rfl
  have HZ := hide hsz
  clear hsz
  go_enter Tryd.func34, Tryd.ntmps34
  go_wp2_with fail
  go_loopw [3] (fun s3 wr => w = wr ∧ ∃ i : Nat, i ≤ s.size ∧ s3 = .int .i64 i ∧ (s.data.toList.take i).all low = true) (fun s3 _ => s.size - (intOf s3).toNat)
  case atStart => exact ⟨rfl, 0, by omega, rfl, by simp⟩
  case round =>
    obtain ⟨rfl, i, hi, rfl, hall⟩ := hrel
    have i0 : (0 : Int) ≤ (i : Int) := by omega
    have Hall := hide hall
    clear hall
    by_cases hin : i < s.size
    · have i1 : (i : Int) < (s.size : Int) := by omega
      obtain ⟨x, hx⟩ : ∃ x, s.data.toList[i]? = some x := ⟨_, List.getElem?_eq_getElem (by rw [HZ.out]; exact hin)⟩
      have hix := index_str s i x hx
      have Hx := hide hx
      clear hx
      generalize hxn : x.toNat = xn at *
      have Hxn := hide hxn
      clear hxn
      by_cases h1 : (xn : Int) < 97
      · go_wp2_with fail
        go_ret
        refine ⟨?_, rfl⟩
        rw [nameB_bad Hx.out (by have := Hxn.out; simp [low]; omega)]
        rfl
      · by_cases h2 : (122 : Int) < (xn : Int)
        · go_wp2_with fail
          go_ret
          refine ⟨?_, rfl⟩
          rw [nameB_bad Hx.out (by have := Hxn.out; simp [low]; omega)]
          rfl
        · go_wp2_with fail
          go_roundw
          case rel =>
            refine ⟨trivial, i + 1, by omega, by go_num, ?_⟩
            rw [List.take_add_one, Hx.out, List.all_append, Hall.out]
            have := Hxn.out
            simp [low]
            omega
          case measure => simp [intOf]; omega
    · obtain hie : i = s.size := by omega
      have i1 : ¬ (i : Int) < (s.size : Int) := by omega
      have hn : nameB s = true := by
        have ha := Hall.out
        rw [List.take_of_length_le (by rw [HZ.out]; omega)] at ha
        unfold nameB
        rw [ha, decide_eq_true (show 1 ≤ s.size by omega), decide_eq_true (show s.size ≤ 8 by omega)]
        rfl
      have HN := hide hn
      clear hn hie
      go_wp2_with fail
      go_ret
      exact ⟨by rw [HN.out]; rfl, rfl⟩
/-! ### Digits -/
abbrev sDig : ByteArray := ⟨#[48, 49, 50, 51, 52, 53, 54, 55, 56, 57]⟩
theorem dig_slice (r : Nat) (h : r < 10) (W : World) : (Instr.slice 9 (.string sDig) (some (.int .i64 (r : Int))) (some (.int .i64 ((r : Int) + 1))) none).run Tryd.prog W = .ok (.string (digS r)) W := by
  rw [run_slice_string (h := Tryd.underlying9)]
  · refine congrArg (fun x => Result.ok (Value.string x) W) ?_
    have e1 : ((r : Int)).toNat = r := by omega
    have e2 : ((r : Int) + 1).toNat = r + 1 := by omega
    rw [e1, e2]
    refine (?_ : ∀ j : Fin 10, ByteArray.extract sDig j.1 (j.1 + 1) = digS j.1) ⟨r, h⟩
    decide +kernel
  · omega
  · omega
  · exact Int.le_trans (b := ((10 : Nat) : Int)) (by omega) (Int.ofNat_le.2 (by decide))
theorem digS_size (i : Nat) (h : i < 100) : (digS i).size ≤ 2 := by
  refine (?_ : ∀ j : Fin 100, (digS j.1).size ≤ 2) ⟨i, h⟩
  decide +kernel
theorem cat_str (a b : ByteArray) (h : a.size + b.size ≤ 1000000) (W : World) : (Op.stringOp .add a b).run Tryd.prog W = .ok (.string (a ++ b)) W := run_string_add_sum W a b (by omega)
set_option maxRecDepth 100000 in
theorem digits1 {w : World} {i : Nat} (h : i < 10) : Calls Tryd.prog 33 #[.int .i64 i] w fun e w' => e = .returned (.string (digS i)) ∧ w = w' := by
  have h0 : (0 : Int) ≤ (i : Int) := by omega
  have h1 : (i : Int) < 10 := by omega
  have hsl := dig_slice i h
  go_enter Tryd.func33, Tryd.ntmps33
  go_wp2_with fail
  go_ret
  exact ⟨rfl, rfl⟩
set_option maxRecDepth 100000 in
theorem digits_calls {w : World} {i : Nat} (h : i < 100) : Calls Tryd.prog 33 #[.int .i64 i] w fun e w' => e = .returned (.string (digS i)) ∧ Fr [] w w' := by
  by_cases h9 : i < 10
  · exact (digits1 h9).mono fun _ _ h => ⟨h.1, h.2 ▸ Fr.refl _ _⟩
  · have h0 : (0 : Int) ≤ (i : Int) := by omega
    have h1 : ¬ (i : Int) < 10 := by omega
    obtain ⟨q, hq⟩ : ∃ q, q = i / 10 := ⟨_, rfl⟩
    obtain ⟨r, hr⟩ : ∃ r, r = i % 10 := ⟨_, rfl⟩
    have hq10 : q < 10 := by omega
    have hr10 : r < 10 := by omega
    have t1 : (i : Int).tdiv 10 = (q : Int) := by rw [hq, Int.tdiv_eq_ediv_of_nonneg (by omega)]; rfl
    have t2 : (i : Int).tmod 10 = (r : Int) := by rw [hr, Int.tmod_eq_emod_of_nonneg (by omega)]; rfl
    have w1 : IntKind.i64.wrap (q : Int) = (q : Int) := by rw [IntKind.wrap_i64]; omega
    have w2 : IntKind.i64.wrap (r : Int) = (r : Int) := by rw [IntKind.wrap_i64]; omega
    have w3 : IntKind.i64.wrap ((r : Int) + 1) = (r : Int) + 1 := by rw [IntKind.wrap_i64]; omega
    have hsl := dig_slice r hr10
    have HD := hide (fun W => digits1 (w := W) hq10)
    have hcat : digS q ++ digS r = digS i := by
      rw [hq, hr]
      refine (?_ : ∀ j : Fin 100, ¬ j.1 < 10 → digS (j.1 / 10) ++ digS (j.1 % 10) = digS j.1) ⟨i, h⟩ h9
      decide +kernel
    have hadd := cat_str (digS q) (digS r) (by have := digS_size q (by omega); have := digS_size r (by omega); omega)
    rw [hcat] at hadd
    clear hq hr hcat hq10 hr10 h9
    go_enter Tryd.func33, Tryd.ntmps33
    go_wp2_with fail
    go_quiet ((go_at_call 33; exact Calls.quiet_of_same ((HD.out _).mono fun _ _ h => ⟨h.1, h.2.symm⟩)))
    go_wp2_with fail
    go_ret
    exact ⟨rfl, (Fr.refl _ _).drewN _⟩
end Go.Proofs.YtnncbmbepdkfnaaDoor

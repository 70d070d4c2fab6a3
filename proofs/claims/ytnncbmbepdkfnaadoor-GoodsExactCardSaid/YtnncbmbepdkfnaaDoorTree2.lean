/- errors.Is, blame.Has, blame.Number of errors with their leaves. -/
import Derived.Test.YtnncbmbepdkfnaaDoorTree
namespace Go.Proofs.YtnncbmbepdkfnaaDoor
open Go.RowKit Go.Extern.Stop Go.Stop Go.Extern

theorem noIsS (v : Value) (xT : TypeId) (w : World) : (Instr.typeAssert (.iface 108 v) xT 96 true).run Tryd.prog w = .ok (.tuple #[.nilIface, .bool false]) w := run_typeAssert_lacksB Tryd.underlying96 (by kernel_rfl) (by kernel_rfl) v xT w
theorem noUnwrapS (v : Value) (xT : TypeId) (w : World) : (Instr.typeAssert (.iface 108 v) xT 99 true).run Tryd.prog w = .ok (.tuple #[.nilIface, .bool false]) w := run_typeAssert_lacksB Tryd.underlying99 (by kernel_rfl) (by kernel_rfl) v xT w
theorem hasUnwrapS (v : Value) (xT : TypeId) (w : World) : (Instr.typeAssert (.iface 108 v) xT 101 true).run Tryd.prog w = .ok (.tuple #[.iface 108 v, .bool true]) w := run_typeAssert_hasB Tryd.underlying101 (by kernel_rfl) v xT w
theorem methodUnwrapS (v : Value) (w : World) : (Go.method 285 108 v "Unwrap").run Tryd.prog w = .ok (44, v) w := by kernel_rfl
theorem eq_typesS (p : Value) (a : Addr) (w : World) : (binOp .eql 26 (.iface 108 p) (sv a)).run Tryd.prog w = .ok (.bool false) w :=
  run_eql_iface_types (P := Tryd.prog) 108 152 p (.pointer (some a)) Tryd.underlying26 (by decide) w
abbrev nums (cs : List Ch) : List Nat := cs.map (·.2)
set_option maxRecDepth 100000 in
set_option maxHeartbeats 2000000 in
theorem is_sev {B : Nat} {w : World} {ad : Nat → Addr} (hs : Sents All18 B w ad) {j : Nat} (hj : j ∈ All18) {g : Nat} {cs : List Ch} (h : HS w ad g cs) (hn : 0 < cs.length) (hl : cs.length ≤ 1000000) :
    Calls Tryd.prog 31 #[se g, sv (ad j), .bool true] w fun e w' => e = .returned (.bool (decide (j ∈ nums cs))) ∧ Fr [] w w' := by
  have HU := hide (sunwrap_calls h (Fr.refl _ _) hn hl)
  have HS_ := hide hs
  have Hj := hide hj
  have nI := noIsS
  have nU := noUnwrapS
  have hU := hasUnwrapS
  have mU := methodUnwrapS
  have tY := eq_typesS
  clear hs h
  go_enter Tryd.func31, Tryd.ntmps31
  go_wp2_with fail
  go_loopw [0] (fun s0 wr => wr = w ∧ s0 = se g) (fun _ _ => 0)
  case atStart => exact ⟨rfl, rfl⟩
  case round =>
    obtain ⟨rfl, rfl⟩ := hrel
    go_wp2_with fail
    refine HU.out.mono ?_
    rintro e w1 ⟨g', c', vs, rfl, hr, hlen, hc, hf⟩
    have HR := hide (And.intro hr (And.intro hlen (And.intro hc hf)))
    clear hr hlen hc hf
    have n0 : (0 : Int) ≤ (cs.length : Int) := by omega
    go_wp2_with fail
    go_loopw [45] (fun s45 w2 => w1 = w2 ∧ ∃ i : Nat, i ≤ cs.length ∧ s45 = .int .i64 i ∧ j ∉ (cs.take i).map (·.2)) (fun s45 _ => cs.length - (intOf s45).toNat)
    case atStart => exact ⟨rfl, 0, by omega, rfl, by simp⟩
    case round =>
      obtain ⟨rfl, i, hi, rfl, hnot⟩ := hrel
      by_cases hil : i < cs.length
      · obtain ⟨hr, hlen, hc, hf⟩ := HR.out
        obtain ⟨v, hv⟩ : ∃ v, vs[i]? = some v := ⟨_, List.getElem?_eq_getElem (by omega)⟩
        obtain ⟨c, hci⟩ : ∃ c, cs[i]? = some c := ⟨_, List.getElem?_eq_getElem hil⟩
        have hch := (hc i v c hv hci).fr0 hf
        have c0 := row_cell hr hv
        have lg := World.block_lt_of_cell? w1 _ c0
        obtain ⟨k1, k2, T, hT⟩ := hch
        have Hl := hide (is_loop (HS_.out.fr0 hf) Hj.out (mem_all18 k1 k2) hT.chain)
        have i0 : (0 : Int) ≤ (i : Int) := by omega
        have i1 : (i : Int) < (cs.length : Int) := by omega
        obtain ⟨t, a, rfl⟩ := hT.chain.form
        have Hci := hide hci
        have Hnot := hide hnot
        clear hr hlen hc hf hv hT hci hnot
        by_cases he : c.2 = j
        · have hd : decide (c.2 = j) = true := by simpa using he
          rw [hd] at Hl
          clear hd
          have hin : j ∈ nums cs := he ▸ List.mem_map.mpr ⟨c, List.mem_of_getElem? Hci.out, rfl⟩
          have Hin := hide hin
          clear he hin
          go_wp2_with fail
          refine Hl.out.mono ?_
          rintro e w2 ⟨rfl, rfl⟩
          go_wp2_with fail
          go_ret
          exact ⟨ret_eq (bool_eq (decide_eq_true Hin.out).symm), HR.out.2.2.2⟩
        · have hd : decide (c.2 = j) = false := by simpa using he
          rw [hd] at Hl
          have He := hide he
          clear hd he
          go_wp2_with fail
          refine Hl.out.mono ?_
          rintro e w2 ⟨rfl, rfl⟩
          go_wp2_with fail
          go_roundw
          case rel =>
            refine ⟨trivial, i + 1, by omega, by go_num, ?_⟩
            rw [List.take_add_one, Hci.out, List.map_append, List.mem_append, not_or]
            exact ⟨Hnot.out, by simpa using fun h => He.out h.symm⟩
          case measure => simp [intOf]; omega
      · obtain rfl : i = cs.length := by omega
        rw [List.take_length] at hnot
        have Hnot := hide hnot
        clear hnot
        have i1 : ¬ (cs.length : Int) < (cs.length : Int) := by omega
        go_wp2_with fail
        go_ret
        exact ⟨ret_eq (bool_eq (decide_eq_false Hnot.out).symm), HR.out.2.2.2⟩
end Go.Proofs.YtnncbmbepdkfnaaDoor

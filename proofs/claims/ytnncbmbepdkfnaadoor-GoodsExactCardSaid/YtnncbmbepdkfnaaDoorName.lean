/- schema.IsName. -/
import Derived.Test.YtnncbmbepdkfnaaDoorRest
import Derived.Laws.IdiomStrings
namespace Go.Proofs.YtnncbmbepdkfnaaDoor
open Go.RowKit
def low (b : UInt8) : Bool := decide (97 ≤ b.toNat) && decide (b.toNat ≤ 122)
def nameB (s : ByteArray) : Bool := s.data.toList.all low && decide (1 ≤ s.size) && decide (s.size ≤ 8)
set_option maxRecDepth 100000 in
set_option maxHeartbeats 2000000 in
theorem isname_calls {w : World} (s : ByteArray) (hs : s.size ≤ 9223372036854775807) :
    Calls Tryd.prog 61 #[.string s] w fun e w' => e = .returned (.bool (nameB s)) ∧ Fr [] w w' := by
  have hcv0 := run_bytes_of_string (P := Tryd.prog) w 9 121 5 s Tryd.underlying9 Tryd.underlying121 Tryd.underlying5
  generalize grownCap w s.size 0 5 = cap at hcv0
  have hcell : ∀ (j : Nat) (x : UInt8), s.data.toList[j]? = some x → (w.drew.alloc (.cells (bytesRow s cap) 5 ((bytesRow s cap).size, (bytesRow s cap).size + 1))).cell? ⟨w.heap.size, j, none⟩ = some (.int .u8 (x.toNat : Int)) := by
    intro j x hx
    rw [Array.getElem?_toList] at hx
    obtain ⟨hj, rfl⟩ := Array.getElem?_eq_some_iff.1 hx
    have hb : (w.drew.alloc (.cells (bytesRow s cap) 5 ((bytesRow s cap).size, (bytesRow s cap).size + 1))).heap[w.heap.size]? = some (.cells (bytesRow s cap) 5 ((bytesRow s cap).size, (bytesRow s cap).size + 1)) := heap_alloc_new w.drew _
    rw [cell_of_row _ w.heap.size j _ _ _ hb]
    exact bytesRow_at s cap j hj
  have hf : Fr [] w (w.drew.alloc (.cells (bytesRow s cap) 5 ((bytesRow s cap).size, (bytesRow s cap).size + 1))) := ((Fr.refl [] w).drew).alloc _
  generalize w.drew.alloc (.cells (bytesRow s cap) 5 ((bytesRow s cap).size, (bytesRow s cap).size + 1)) = w2 at *
  have hsz : s.data.toList.length = s.size := by rw [Array.length_toList]; rfl
  have HH := hide (And.intro hcell (And.intro hf hsz))
  clear hcell hf hsz
  go_enter Tryd.func61, Tryd.ntmps61
  go_wp2_with fail
  go_loopw [4, 8] (fun s4 s8 wr => w2 = wr ∧ ∃ i : Nat, i ≤ s.size ∧ s8 = .int .i64 i ∧ (s.data.toList.take i).all low = true) (fun _ s8 _ => s.size - (intOf s8).toNat)
  case atStart => exact ⟨rfl, 0, by omega, rfl, by simp⟩
  case round =>
    obtain ⟨rfl, i, hi, rfl, hall⟩ := hrel
    have i0 : (0 : Int) ≤ (i : Int) := by omega
    have Hall := hide hall
    clear hall
    by_cases hin : i < s.size
    · have i1 : (i : Int) < (s.size : Int) := by omega
      obtain ⟨x, hx⟩ : ∃ x, s.data.toList[i]? = some x := ⟨_, List.getElem?_eq_getElem (by rw [HH.out.2.2]; exact hin)⟩
      have c0 := HH.out.1 i x hx
      have lg := World.block_lt_of_cell? w2 _ c0
      have Hx := hide hx
      clear hx
      generalize hxn : x.toNat = xn at *
      have Hxn := hide hxn
      clear hxn
      by_cases h1 : (xn : Int) < 97
      · go_wp2_with fail
        go_ret
        refine ⟨ret_eq (bool_eq ?_), HH.out.2.1⟩
        symm
        unfold nameB
        rw [show s.data.toList.all low = false from ?_]
        · rfl
        · rw [List.all_eq_false]
          exact ⟨x, List.mem_of_getElem? Hx.out, by have := Hxn.out; simp [low]; omega⟩
      · by_cases h2 : (122 : Int) < (xn : Int)
        · go_wp2_with fail
          go_ret
          refine ⟨ret_eq (bool_eq ?_), HH.out.2.1⟩
          symm
          unfold nameB
          rw [show s.data.toList.all low = false from ?_]
          · rfl
          · rw [List.all_eq_false]
            exact ⟨x, List.mem_of_getElem? Hx.out, by have := Hxn.out; simp [low]; omega⟩
        · go_wp2_with fail
          go_roundw
          case rel =>
            refine ⟨trivial, i + 1, by omega, by go_num, ?_⟩
            rw [List.take_add_one, Hx.out, List.all_append, Hall.out]
            have := Hxn.out
            simp [low]
            omega
          case measure => simp [intOf]; omega
    · obtain hie : i = s.size := by omega
      have hn : ¬ (i : Int) < (s.size : Int) := by omega
      have ha := Hall.out
      rw [List.take_of_length_le (by rw [HH.out.2.2]; omega)] at ha
      have Ha := hide ha
      clear ha hie
      by_cases h1 : 1 ≤ s.size
      · have h1' : (1 : Int) ≤ (s.size : Int) := by omega
        go_wp2_with fail
        go_ret
        refine ⟨ret_eq (bool_eq ?_), HH.out.2.1⟩
        unfold nameB
        rw [Ha.out]
        simp [h1]
        omega
      · have h1' : ¬ (1 : Int) ≤ (s.size : Int) := by omega
        go_wp2_with fail
        go_ret
        refine ⟨ret_eq (bool_eq ?_), HH.out.2.1⟩
        unfold nameB
        rw [Ha.out]
        simp [h1]
end Go.Proofs.YtnncbmbepdkfnaaDoor

/- Frames of new entries: plain lists (JournalStacks, JournalForgets). -/
import Derived.Test.YtioeafjlbdpjoaaDoorPureJ
import Derived.Test.YtioeafjlbdpjoaaDoorAwakeJ
namespace Go.Proofs.YtioeafjlbdpjoaaDoor
def spawns (a m : Nat) : List Un := (List.range m).map fun t => mkU 2 ((a + t : Nat) : Int) 0 0
def baseC (c : List Nat) (i : Nat) : Nat := (c.take i).sum
def stC (d : Nat) (c : List Nat) (i : Nat) : St := ⟨((d * i : Nat) : Int), spawns (baseC c i) (c[i]?.getD 0)⟩
def shs (d : Nat) (c : List Nat) (m : Nat) : List St := (List.range m).map (stC d c)
theorem spawns_len (a m : Nat) : (spawns a m).length = m := by simp [spawns]
theorem spawns_zero (a : Nat) : spawns a 0 = [] := rfl
theorem spawns_succ (a m : Nat) : spawns a (m + 1) = spawns a m ++ [mkU 2 ((a + m : Nat) : Int) 0 0] := by
  unfold spawns
  rw [List.range_succ, List.map_append]
  rfl
theorem spawns_add (a m k : Nat) : spawns a m ++ spawns (a + m) k = spawns a (m + k) := by
  induction k with
  | zero => simp [spawns_zero]
  | succ k ih => rw [spawns_succ, ← List.append_assoc, ih, ← Nat.add_assoc, spawns_succ, Nat.add_assoc a m k]
theorem spawns_get (a m i : Nat) (h : i < m) : (spawns a m)[i]? = some (mkU 2 ((a + i : Nat) : Int) 0 0) := by
  unfold spawns
  rw [List.getElem?_map, List.getElem?_range h]
  rfl
theorem spawns_rev (a m i : Nat) (h : i < m) : ((spawns a m).reverse)[i]? = some (mkU 2 ((a + (m - 1 - i) : Nat) : Int) 0 0) := by
  rw [List.getElem?_reverse (by rw [spawns_len]; exact h), spawns_len, spawns_get _ _ _ (by omega)]
theorem base_zero (c : List Nat) : baseC c 0 = 0 := by simp [baseC]
theorem base_succ {c : List Nat} {i x : Nat} (h : c[i]? = some x) : baseC c (i + 1) = baseC c i + x := by
  unfold baseC
  rw [List.take_add_one, h]
  simp
theorem base_le {c : List Nat} (h : ∀ x ∈ c, x ≤ 20) (i : Nat) : baseC c i ≤ 20 * i := by
  induction i with
  | zero => simp [base_zero]
  | succ i ih =>
    cases hx : c[i]? with
    | none =>
      have : baseC c (i + 1) = baseC c i := by unfold baseC; rw [List.take_add_one, hx]; simp
      omega
    | some x =>
      have := h x (List.mem_of_getElem? hx)
      rw [base_succ hx]
      omega
theorem base_mono {c : List Nat} {i j : Nat} (h : i ≤ j) : baseC c i ≤ baseC c j := by
  induction j with
  | zero => obtain rfl : i = 0 := by omega
            exact Nat.le_refl _
  | succ j ih =>
    rcases Nat.lt_or_ge i (j + 1) with hlt | hge
    · have h1 := ih (by omega)
      have : baseC c (j + 1) = baseC c j + (c[j]?.getD 0) := by
        unfold baseC
        rw [List.take_add_one]
        cases c[j]? <;> simp
      omega
    · obtain rfl : i = j + 1 := by omega
      exact Nat.le_refl _
theorem shs_len (d : Nat) (c : List Nat) (m : Nat) : (shs d c m).length = m := by simp [shs]
theorem shs_get (d : Nat) (c : List Nat) {m i : Nat} (h : i < m) : (shs d c m)[i]? = some (stC d c i) := by
  unfold shs
  rw [List.getElem?_map, List.getElem?_range h]
  rfl
theorem shs_succ (d : Nat) (c : List Nat) (m : Nat) : shs d c (m + 1) = shs d c m ++ [stC d c m] := by
  unfold shs
  rw [List.range_succ, List.map_append]
  rfl
theorem shs_fr (d : Nat) (c : List Nat) (m : Nat) : (shs d c m).map (·.fr) = (List.range m).map fun i => ((d * i : Nat) : Int) := by
  unfold shs
  rw [List.map_map]
  rfl
theorem shs_take (d : Nat) (c : List Nat) {m k : Nat} (h : k ≤ m) : (shs d c m).take k = shs d c k := by
  unfold shs
  rw [← List.map_take, List.take_range, Nat.min_eq_left h]
theorem shs_us {d : Nat} {c : List Nat} (h : ∀ x ∈ c, x ≤ 20) {m : Nat} : ∀ s ∈ shs d c m, s.us.length ≤ 20 := by
  intro s hs
  obtain ⟨i, _, rfl⟩ := List.mem_map.1 hs
  show (spawns _ _).length ≤ 20
  rw [spawns_len]
  cases hx : c[i]? with
  | none => simp
  | some x => exact h x (List.mem_of_getElem? hx)
theorem entries_shs (d : Nat) (c : List Nat) {m : Nat} (h : m ≤ c.length) : entries (shs d c m) = spawns 0 (baseC c m) := by
  induction m with
  | zero => simp [shs, entries, base_zero, spawns_zero]
  | succ m ih =>
    have hx : c[m]? = some c[m] := List.getElem?_eq_getElem (by omega)
    rw [shs_succ, entries_app, ih (by omega), base_succ hx]
    have : entries [stC d c m] = spawns (0 + baseC c m) c[m] := by
      unfold entries stC
      rw [hx, Nat.zero_add]
      simp
    rw [this, spawns_add]
theorem entries_shs_drop (d : Nat) (c : List Nat) {m k : Nat} (h : m ≤ c.length) (hk : k ≤ m) : entries ((shs d c m).drop k) = spawns (baseC c k) (baseC c m - baseC c k) := by
  have h1 : entries ((shs d c m).take k) ++ entries ((shs d c m).drop k) = entries (shs d c m) := by rw [← entries_app, List.take_append_drop]
  rw [shs_take d c hk, entries_shs d c (by omega), entries_shs d c h] at h1
  have hm := base_mono (c := c) hk
  have h2 := spawns_add 0 (baseC c k) (baseC c m - baseC c k)
  rw [show baseC c k + (baseC c m - baseC c k) = baseC c m by omega, ← h1] at h2
  have h3 := List.append_cancel_left h2
  rw [← h3, Nat.zero_add]
theorem place_map (d a m k : Nat) (hd : 0 < d) : placeOf ((List.range' a m).map fun i => ((d * i : Nat) : Int)) ((d * k : Nat) : Int) = if a ≤ k ∧ k < a + m then some (k - a) else none := by
  unfold placeOf
  induction m generalizing a with
  | zero => rw [if_neg (by omega)]; rfl
  | succ m ih =>
    rw [List.range'_succ, List.map_cons, List.findIdx?_cons]
    by_cases h : a = k
    · subst h
      rw [if_pos (by simp), if_pos (by omega), Nat.sub_self]
    · have h2 : ¬ (((d * a : Nat) : Int) = ((d * k : Nat) : Int)) := fun e => h (Nat.eq_of_mul_eq_mul_left hd (by exact_mod_cast e))
      rw [if_neg (by simpa using h2), ih]
      by_cases h3 : a + 1 ≤ k ∧ k < a + 1 + m
      · rw [if_pos h3, if_pos (by omega)]
        show some (k - (a + 1) + 1) = some (k - a)
        congr 1
        omega
      · rw [if_neg h3, if_neg (by omega)]
        rfl
theorem place_shs {d : Nat} (hd : 0 < d) (c : List Nat) (m k : Nat) : placeOf ((shs d c m).map (·.fr)) ((d * k : Nat) : Int) = if k < m then some k else none := by
  rw [shs_fr, List.range_eq_range', place_map d 0 m k hd]
  simp
theorem rising_shs {d : Nat} (hd : 0 < d ∧ d ≤ 10) (c : List Nat) {m : Nat} (hm : m ≤ 20) : Rising (shs d c m) := by
  refine ⟨fun s hs => ?_, ?_⟩
  · obtain ⟨i, hi, rfl⟩ := List.mem_map.1 hs
    rw [List.mem_range] at hi
    have : d * i ≤ 10 * 20 := Nat.mul_le_mul hd.2 (by omega)
    show (0 : Int) ≤ ((d * i : Nat) : Int) ∧ ((d * i : Nat) : Int) ≤ _
    omega
  · rw [shs_fr, List.pairwise_map]
    refine List.pairwise_lt_range.imp fun {a b} h => ?_
    have := Nat.mul_lt_mul_of_pos_left h hd.1
    exact_mod_cast this
theorem mark_shs {d : Nat} (hd : 0 < d ∧ d ≤ 10) (c : List Nat) {m : Nat} (hm : m ≤ 20) : MarkOk (shs d c m) ((d * m : Nat) : Int) := by
  have h1 : d * m ≤ 10 * 20 := Nat.mul_le_mul hd.2 hm
  refine ⟨by omega, by omega, fun s hs => ?_⟩
  rw [List.getLast?_eq_getElem?, shs_len] at hs
  cases m with
  | zero => simp [shs] at hs
  | succ m =>
    rw [Nat.add_sub_cancel, shs_get d c (by omega)] at hs
    cases hs
    show ((d * m : Nat) : Int) < ((d * (m + 1) : Nat) : Int)
    have := Nat.mul_lt_mul_of_pos_left (Nat.lt_succ_self m) hd.1
    exact_mod_cast this
theorem stale_spawn (s : St) (i n o : Int) : stale s (mkU 2 i n o) = false := by simp [stale, othersK]
/-! what is forgotten -/
theorem fg_map (c : List Nat) (a m k : Nat) : fgN ((List.range' a m).map (stC 1 c)) (k : Int) = min (k - a) (m - 1) := by
  induction m generalizing a with
  | zero => simp [fgN]
  | succ m ih =>
    cases m with
    | zero => simp [fgN]
    | succ m =>
      have h1 := ih (a + 1)
      rw [List.range'_succ, List.map_cons] at h1 ⊢
      rw [List.range'_succ, List.map_cons]
      show (if (stC 1 c a).fr < (k : Int) then fgN (stC 1 c (a + 1) :: List.map (stC 1 c) (List.range' (a + 1 + 1) m)) k + 1 else 0) = _
      rw [h1]
      have h2 : (stC 1 c a).fr = (a : Int) := by show ((1 * a : Nat) : Int) = a; rw [Nat.one_mul]
      rw [h2]
      split <;> omega
theorem fg_shs (c : List Nat) (m k : Nat) : fgN (shs 1 c m) (k : Int) = min k (m - 1) := by
  have := fg_map c 0 m k
  rw [Nat.sub_zero] at this
  rw [← this, ← List.range_eq_range']
  rfl
theorem shs_drop_fr (c : List Nat) (m k : Nat) : ((shs 1 c m).drop k).map (·.fr) = (List.range' k (m - k)).map fun i => ((1 * i : Nat) : Int) := by
  rw [List.map_drop, shs_fr, ← List.map_drop, List.range_eq_range', List.drop_range']
  simp
/-! counts -/
def cnt (x : Int) : Nat := (IntKind.u64.wrap x).toNat % 21
theorem cnt_le (x : Int) : cnt x ≤ 20 := by unfold cnt; omega
theorem cnt_of {x : Int} {u : Nat} (h : IntKind.u64.wrap x = u) : cnt x = u % 21 := by unfold cnt; rw [h]; rfl
theorem cnts_le {l : List Int} : ∀ x ∈ l.map cnt, x ≤ 20 := by
  intro x hx
  obtain ⟨y, _, rfl⟩ := List.mem_map.1 hx
  exact cnt_le y
end Go.Proofs.YtioeafjlbdpjoaaDoor

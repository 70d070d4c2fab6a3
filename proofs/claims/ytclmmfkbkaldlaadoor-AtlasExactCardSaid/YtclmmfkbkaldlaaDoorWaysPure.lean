/- AtlasWays: what a way is, in numbers alone. -/
import Derived.Test.YtclmmfkbkaldlaaDoorLawAOnce
namespace Go.Proofs.YtclmmfkbkaldlaaDoor
open Go.RowKit

/-- the sets that a way comes to -/
def path (more : Bool) (m : Nat) : List Nat → List Nat
  | [] => []
  | c :: cs => tgt more m c :: path more (tgt more m c) cs
def ends (more : Bool) (m : Nat) (cs : List Nat) : Nat := cs.foldl (tgt more) m
theorem path_len (more : Bool) : ∀ (m : Nat) (cs : List Nat), (path more m cs).length = cs.length
  | _, [] => rfl
  | m, c :: cs => by simp [path, path_len more _ cs]
theorem runs_path (more : Bool) : ∀ (cs : List Nat) (ms : List Nat) (m : Nat) (way : List Nat), runs more (ms, m, way) cs = (adds ms (path more m cs), ends more m cs, way ++ (path more m cs).map (adds ms (path more m cs)).idxOf)
  | [], ms, m, way => by simp [runs, path, ends, adds]
  | c :: cs, ms, m, way => by
    have ih := runs_path more cs (addm ms (tgt more m c)) (tgt more m c) (way ++ [(addm ms (tgt more m c)).idxOf (tgt more m c)])
    have e1 : runs more (ms, m, way) (c :: cs) = runs more (addm ms (tgt more m c), tgt more m c, way ++ [(addm ms (tgt more m c)).idxOf (tgt more m c)]) cs := rfl
    have e2 : adds ms (path more m (c :: cs)) = adds (addm ms (tgt more m c)) (path more (tgt more m c) cs) := rfl
    rw [e1, ih, e2]
    have hin := adds_in (addm ms (tgt more m c)) (path more (tgt more m c) cs)
    have hidx := hin.idx (addm_mem ms (tgt more m c))
    have e3 : path more m (c :: cs) = tgt more m c :: path more (tgt more m c) cs := rfl
    rw [e3, List.map_cons, hidx, List.append_assoc]
    rfl
theorem path_last (more : Bool) : ∀ (cs : List Nat) (m : Nat), (m :: path more m cs)[cs.length]? = some (ends more m cs)
  | [], m => rfl
  | c :: cs, m => by
    have := path_last more cs (tgt more m c)
    simpa [path, ends] using this

/-- one step of a way between x and y -/
def Good (x y p q : Nat) : Prop := ∃ c, c < 16 ∧ p ^^^ q = 2 ^ c ∧ (x ^^^ y).testBit c = true ∧ ∀ i, q.testBit i = true → (x.testBit i || y.testBit i) = true
def Chain2 (x y : Nat) : List Nat → Prop
  | [] => True
  | [_] => True
  | p :: q :: r => Good x y p q ∧ Chain2 x y (q :: r)
theorem Chain2.at_ {x y : Nat} : ∀ {l : List Nat} {k p q : Nat}, Chain2 x y l → l[k]? = some p → l[k + 1]? = some q → Good x y p q
  | [], k, p, q, _, h, _ => by simp at h
  | [a], k, p, q, _, _, h => by simp at h
  | a :: b :: r, 0, p, q, hc, h, h' => by
    simp at h h'
    subst h; subst h'
    exact hc.1
  | a :: b :: r, k + 1, p, q, hc, h, h' => hc.2.at_ (by simpa using h) (by simpa using h')
theorem chain2_app {x y : Nat} : ∀ {l : List Nat} {p : Nat} {r : List Nat}, Chain2 x y (l ++ [p]) → Chain2 x y (p :: r) → Chain2 x y (l ++ p :: r)
  | [], p, r, _, h => h
  | [a], p, r, h, h' => ⟨h.1, h'⟩
  | a :: b :: l, p, r, h, h' => ⟨h.1, chain2_app (l := b :: l) h.2 h'⟩
theorem tgt_bit (more : Bool) {m c : Nat} (hm : m < 4294967296) (hc : c < 32) (i : Nat) : (tgt more m c).testBit i = if c = i then more else m.testBit i := by
  cases more
  · show (wout m c).testBit i = _
    rw [wout_bit _ _ _ hm hc]
    by_cases e : c = i <;> simp [e]
  · show (wth m c).testBit i = _
    rw [wth_bit]
    by_cases e : c = i <;> simp [e]
theorem tgt_lt (more : Bool) {m c : Nat} (hm : m < 2 ^ 16) (hc : c < 16) : tgt more m c < 2 ^ 16 := by
  cases more
  · exact Nat.lt_of_le_of_lt (wout_le _ _) hm
  · exact wth_lt hm hc
theorem xor_tgt (more : Bool) {m c : Nat} (hm : m < 4294967296) (hc : c < 32) (hb : m.testBit c = !more) : m ^^^ tgt more m c = 2 ^ c := by
  apply Nat.eq_of_testBit_eq
  intro i
  rw [Nat.testBit_xor, tgt_bit more hm hc, Nat.testBit_two_pow]
  by_cases e : c = i
  · subst e; rw [if_pos rfl, hb]; cases more <;> simp
  · rw [if_neg e]; simp [e]
/-- a phase of a way: the bits of cs are turned, one by one -/
theorem phase {x y : Nat} (more : Bool) : ∀ (cs : List Nat) (m : Nat), m < 2 ^ 16 → cs.Nodup → (∀ c ∈ cs, c < 16 ∧ m.testBit c = !more ∧ (x ^^^ y).testBit c = true ∧ (x.testBit c || y.testBit c) = true) → (∀ i, m.testBit i = true → (x.testBit i || y.testBit i) = true) →
    Chain2 x y (m :: path more m cs) ∧ ends more m cs < 2 ^ 16 ∧ (∀ i, (ends more m cs).testBit i = if i ∈ cs then more else m.testBit i)
  | [], m, hm, _, _, _ => ⟨trivial, hm, fun i => by simp [ends]⟩
  | c :: cs, m, hm, hnd, hcs, hsub => by
    obtain ⟨hc, hmc, hxy, hor⟩ := hcs c (by simp)
    have hm32 : m < 4294967296 := by omega
    have hnc := (List.nodup_cons.1 hnd).1
    have hsub' : ∀ i, (tgt more m c).testBit i = true → (x.testBit i || y.testBit i) = true := fun i hi => by
      rw [tgt_bit more hm32 (by omega)] at hi
      by_cases e : c = i
      · rw [← e]; exact hor
      · rw [if_neg e] at hi; exact hsub i hi
    obtain ⟨h1, h2, h3⟩ := phase (x := x) (y := y) more cs (tgt more m c) (tgt_lt more hm hc) (List.nodup_cons.1 hnd).2 (fun d hd => by
      obtain ⟨a, b, c', d'⟩ := hcs d (by simp [hd])
      refine ⟨a, ?_, c', d'⟩
      rw [tgt_bit more hm32 (by omega), if_neg (show ¬ c = d from fun e => hnc (by rw [e]; exact hd)), b]) hsub'
    refine ⟨⟨⟨c, hc, xor_tgt more hm32 (by omega) hmc, hxy, hsub'⟩, h1⟩, h2, fun i => ?_⟩
    have e : ends more m (c :: cs) = ends more (tgt more m c) cs := rfl
    rw [e, h3 i, tgt_bit more hm32 (by omega)]
    by_cases e1 : i ∈ cs
    · simp [e1]
    · by_cases e2 : c = i
      · subst e2; simp
      · have : i ≠ c := fun e => e2 e.symm
        simp [e1, e2, this]
theorem bits_mem {m i : Nat} : i ∈ bitsOf m ↔ i < 32 ∧ m.testBit i = true := by
  unfold bitsOf; rw [List.mem_filter, List.mem_range]
theorem bits_nodup (m : Nat) : (bitsOf m).Nodup := List.Nodup.sublist List.filter_sublist List.nodup_range
theorem andn_bit (x y i : Nat) (hx : x < 2 ^ 16) (hy : y < 2 ^ 16) : (x &&& (4294967295 - y)).testBit i = (x.testBit i && !y.testBit i) := by
  rw [Nat.testBit_and, full_bit _ _ (by omega)]
  by_cases hi : i < 32
  · simp [hi]
  · rw [bit_ge (m := x) (by omega) (by omega)]; simp
theorem bit16 {x i : Nat} (hx : x < 2 ^ 16) (h : x.testBit i = true) : i < 16 := by
  rcases Nat.lt_or_ge i 16 with h1 | h1
  · exact h1
  · rw [Nat.testBit_lt_two_pow (Nat.lt_of_lt_of_le hx (Nat.pow_le_pow_right (by omega) h1))] at h; cases h
/-- all that a way is -/
theorem way_spec (ms : List Nat) {x y i : Nat} (hx : x < 2 ^ 16) (hy : y < 2 ^ 16) (hix : ms[i]? = some x) (hnd : ms.Nodup) :
    ∃ M F, (wayP ms i x y).2.2 = M.map F.idxOf ∧ (wayP ms i x y).1 = F ∧ In ms F ∧ (∀ m ∈ M, m ∈ F) ∧ M[0]? = some x ∧ M[M.length - 1]? = some y ∧ Chain2 x y M ∧ M.length = (bitsOf (x &&& (4294967295 - y))).length + (bitsOf (y &&& (4294967295 - x))).length + 1 := by
  unfold wayP
  generalize hc1 : bitsOf (x &&& (4294967295 - y)) = cs1
  generalize hc2 : bitsOf (y &&& (4294967295 - x)) = cs2
  have m1 : ∀ c, c ∈ cs1 ↔ (x.testBit c = true ∧ y.testBit c = false) := fun c => by
    rw [← hc1, bits_mem, andn_bit _ _ _ hx hy]
    constructor
    · rintro ⟨_, h⟩; simpa using h
    · rintro ⟨h, h'⟩; exact ⟨by have := bit16 hx h; omega, by simp [h, h']⟩
  have m2 : ∀ c, c ∈ cs2 ↔ (y.testBit c = true ∧ x.testBit c = false) := fun c => by
    rw [← hc2, bits_mem, andn_bit _ _ _ hy hx]
    constructor
    · rintro ⟨_, h⟩; simpa using h
    · rintro ⟨h, h'⟩; exact ⟨by have := bit16 hy h; omega, by simp [h, h']⟩
  obtain ⟨p1, p2, p3⟩ := phase (x := x) (y := y) false cs1 x hx (by rw [← hc1]; exact bits_nodup _) (fun c hc => by
    obtain ⟨a, b⟩ := (m1 c).1 hc
    exact ⟨bit16 hx a, by simp [a], by rw [Nat.testBit_xor, a, b]; rfl, by simp [a]⟩) (fun i hi => by simp [hi])
  have hb1 : ∀ i, (ends false x cs1).testBit i = (x.testBit i && y.testBit i) := fun i => by
    rw [p3 i]
    by_cases h : i ∈ cs1
    · obtain ⟨a, b⟩ := (m1 i).1 h
      simp [h, a, b]
    · rw [if_neg h]
      cases hxi : x.testBit i
      · simp
      · cases hyi : y.testBit i
        · exact absurd ((m1 i).2 ⟨hxi, hyi⟩) h
        · rfl
  obtain ⟨q1, q2, q3⟩ := phase (x := x) (y := y) true cs2 (ends false x cs1) p2 (by rw [← hc2]; exact bits_nodup _) (fun c hc => by
    obtain ⟨a, b⟩ := (m2 c).1 hc
    exact ⟨bit16 hy a, by rw [hb1, a, b]; rfl, by rw [Nat.testBit_xor, a, b]; rfl, by simp [a]⟩) (fun i hi => by
      rw [hb1] at hi
      simp at hi
      simp [hi.1])
  have hend : ends true (ends false x cs1) cs2 = y := by
    apply Nat.eq_of_testBit_eq
    intro i
    rw [q3 i]
    by_cases h : i ∈ cs2
    · rw [if_pos h, ((m2 i).1 h).1]
    · rw [if_neg h, hb1]
      cases hyi : y.testBit i
      · simp
      · cases hxi : x.testBit i
        · exact absurd ((m2 i).2 ⟨hyi, hxi⟩) h
        · rfl
  rw [runs_path, runs_path]
  generalize hF1 : adds ms (path false x cs1) = F1
  generalize hF2 : adds F1 (path true (ends false x cs1) cs2) = F
  have i1 : In ms F1 := by rw [← hF1]; exact adds_in _ _
  have i2 : In F1 F := by rw [← hF2]; exact adds_in _ _
  have mx : x ∈ ms := List.mem_of_getElem? hix
  have ex : F.idxOf x = i := by
    rw [(i1.trans i2).idx mx]
    have hlt := List.idxOf_lt_length_of_mem mx
    exact (List.getElem?_inj hlt hnd).1 (by rw [List.getElem?_eq_getElem hlt, List.getElem_idxOf, hix])
  have mem1 : ∀ m ∈ path false x cs1, m ∈ F1 := fun m hm => by rw [← hF1]; exact adds_mem _ hm
  refine ⟨x :: (path false x cs1 ++ path true (ends false x cs1) cs2), F, ?_, rfl, i1.trans i2, ?_, rfl, ?_, ?_, ?_⟩
  · simp only [List.map_cons, List.map_append, ex, List.singleton_append, List.cons_append]
    congr 2
    exact List.map_congr_left fun m hm => (i2.idx (mem1 m hm)).symm
  · intro m hm
    rcases List.mem_cons.1 hm with rfl | hm
    · exact (i1.trans i2).mem mx
    · rcases List.mem_append.1 hm with hm | hm
      · exact i2.mem (mem1 m hm)
      · rw [← hF2]; exact adds_mem _ hm
  · have l1 := path_last false cs1 x
    have l2 := path_last true cs2 (ends false x cs1)
    rw [hend] at l2
    have e : (x :: (path false x cs1 ++ path true (ends false x cs1) cs2)).length - 1 = cs1.length + cs2.length := by simp [path_len]
    rw [e]
    cases cs2 with
    | nil =>
      simp only [path, List.append_nil, List.length_nil, Nat.add_zero]
      rw [l1]
      simpa [ends, path] using l2
    | cons c cs =>
      rw [← List.cons_append, List.getElem?_append_right (by simp only [List.length_cons, path_len]; omega)]
      have e2 : cs1.length + (c :: cs).length - (x :: path false x cs1).length = cs.length := by simp only [List.length_cons, path_len]; omega
      rw [e2]
      simpa using l2
  · -- the chain: the two phases meet
    have l1 := path_last false cs1 x
    have key : ∃ init, x :: path false x cs1 = init ++ [ends false x cs1] := by
      refine ⟨(x :: path false x cs1).take cs1.length, ?_⟩
      have hlen : (x :: path false x cs1).length = cs1.length + 1 := by simp [path_len]
      have h2 := List.take_succ_eq_append_getElem (l := x :: path false x cs1) (i := cs1.length) (by omega)
      rw [← hlen, List.take_length] at h2
      have h3 : (x :: path false x cs1)[cs1.length]'(by omega) = ends false x cs1 := by
        rw [List.getElem?_eq_getElem (by omega)] at l1
        exact Option.some.inj l1
      rw [h3] at h2
      exact h2
    obtain ⟨init, hk⟩ := key
    rw [← List.cons_append, hk, List.append_assoc, List.singleton_append]
    exact chain2_app (by rw [← hk]; exact p1) q1
  · simp [path_len]
/-- how many components differ, among the first k -/
def dif (x y k : Nat) : Nat := ((List.range k).filter fun i => x.testBit i != y.testBit i).length
theorem dif_succ (x y k : Nat) : dif x y (k + 1) = dif x y k + if x.testBit k != y.testBit k then 1 else 0 := by
  unfold dif
  rw [List.range_succ, List.filter_append, List.length_append]
  congr 1
  by_cases h : (x.testBit k != y.testBit k) = true
  · simp [h]
  · simp [h]
theorem filter_split {p q r : Nat → Bool} : ∀ (l : List Nat), (∀ i ∈ l, p i = (q i || r i) ∧ (q i && r i) = false) → (l.filter p).length = (l.filter q).length + (l.filter r).length
  | [], _ => rfl
  | a :: l, h => by
    have ih := filter_split l fun i hi => h i (by simp [hi])
    obtain ⟨h1, h2⟩ := h a (by simp)
    simp only [List.filter_cons]
    cases hq : q a <;> cases hr : r a <;> simp_all <;> omega
theorem bits16 {m : Nat} (h : m < 2 ^ 16) : bitsOf m = (List.range 16).filter m.testBit := by
  unfold bitsOf
  have e : List.range 32 = List.range 16 ++ List.range' 16 16 := by decide
  rw [e, List.filter_append]
  have z : (List.range' 16 16).filter m.testBit = [] := by
    rw [List.filter_eq_nil_iff]
    intro i hi h2
    have := bit16 h h2
    rw [List.mem_range'_1] at hi
    omega
  rw [z, List.append_nil]
theorem dif_len {x y : Nat} (hx : x < 2 ^ 16) (hy : y < 2 ^ 16) : dif x y 16 = (bitsOf (x &&& (4294967295 - y))).length + (bitsOf (y &&& (4294967295 - x))).length := by
  rw [bits16 (andn_lt hx), bits16 (andn_lt hy)]
  unfold dif
  refine filter_split _ fun i _ => ?_
  rw [andn_bit _ _ _ hx hy, andn_bit _ _ _ hy hx]
  cases x.testBit i <;> cases y.testBit i <;> simp
/-- a good step, as the law asks it -/
theorem Good.ask {x y p q : Nat} (h : Good x y p q) (hq : q < 2 ^ 16) (hx : x < 2 ^ 16) (hy : y < 2 ^ 16) :
    p ^^^ q ≠ 0 ∧ (p ^^^ q) &&& ((p ^^^ q) - 1) = 0 ∧ (p ^^^ q) &&& (x ^^^ y) = p ^^^ q ∧ q &&& (4294967295 - (x ||| y)) = 0 ∧ p ^^^ q < 65536 := by
  obtain ⟨c, hc, hd, hxy, hsub⟩ := h
  rw [hd]
  have hp := Nat.two_pow_pos c
  refine ⟨by omega, ?_, ?_, ?_, by have := Nat.pow_lt_pow_right (a := 2) (by omega) hc; simpa using this⟩
  · rw [Nat.and_two_pow_sub_one_eq_mod, Nat.mod_self]
  · apply Nat.eq_of_testBit_eq
    intro i
    rw [Nat.testBit_and, Nat.testBit_two_pow]
    by_cases e : c = i
    · subst e; simp [hxy]
    · simp [e]
  · apply Nat.eq_of_testBit_eq
    intro i
    have hor : x ||| y < 2 ^ 16 := Nat.or_lt_two_pow hx hy
    rw [andn_bit _ _ _ hq hor, Nat.testBit_or, Nat.zero_testBit]
    cases hqi : q.testBit i
    · rfl
    · rw [hsub i hqi]; rfl
theorem tmod_bit (x c : Nat) : ((x : Int) / 2 ^ c).tmod 2 = if x.testBit c then 1 else 0 := by
  have e : ((x : Int) / 2 ^ c) = ((x / 2 ^ c : Nat) : Int) := by simp
  have tb := Nat.testBit_eq_decide_div_mod_eq (x := x) (i := c)
  have e2 : (((x / 2 ^ c : Nat) : Int)).tmod 2 = ((x / 2 ^ c % 2 : Nat) : Int) := rfl
  rw [e, e2, tb]
  by_cases h : x / 2 ^ c % 2 = 1
  · simp [h]
  · have : x / 2 ^ c % 2 = 0 := by omega
    simp [this]
end Go.Proofs.YtclmmfkbkaldlaaDoor

/- JournalOnce holds: for every input the call answers true and the arguments read as before. -/
import Derived.Test.YtioeafjlbdpjoaaDoorLawJOnce
import Derived.Test.YtioeafjlbdpjoaaDoorLeaf
import Derived.Test.YtioeafjlbdpjoaaDoorCards
import Derived.Test.YtioeafjlbdpjoaaDoorTie
namespace Go.Proofs.YtioeafjlbdpjoaaDoor.journalOnce
open Go.ChangeShapes Go.WideShapes Go.ChangeAt Go.RowKit Go.Deep

theorem readable : (Tryd.f5.params.toList.all fun t => Tryd.prog.readableRec t && decide (t < Tryd.prog.types.size)) = true := by kernel_rfl
def K : List Nat := [1, 2, 6, 8, 16]
def lst : List (String × List UInt8) := [("pasodoble/api.ErrArg", [97, 110, 32, 97, 114, 103, 117, 109, 101, 110, 116, 32, 116, 104, 97, 116, 32, 99, 97, 110, 39, 116, 32, 98, 101]), ("pasodoble/api.ErrNil", [97, 32, 110, 105, 108, 32, 116, 104, 105, 110, 103]), ("pasodoble/api.ErrFull", [110, 111, 32, 114, 111, 111, 109]), ("pasodoble/api.ErrState", [110, 111, 116, 32, 110, 111, 119]), ("pasodoble/api.ErrRange", [97, 32, 102, 114, 97, 109, 101, 32, 116, 104, 97, 116, 32, 105, 115, 110, 39, 116, 32, 107, 101, 112, 116])]
theorem lst_eq : Rows.journalOnceRow.laid = lst.map sent := rfl
theorem lst_names : ∀ (i : Nat) (x : String × List UInt8) (k : Nat), lst[i]? = some x → K[i]? = some k → Tryd.prog.globalNamed x.1 = some (gOf k) := by
  have h : ((lst.zip K).all fun y => Tryd.prog.globalNamed y.1.1 == some (gOf y.2)) = true := by kernel_rfl
  intro i x k hx hk
  have hm : (x, k) ∈ lst.zip K := List.mem_of_getElem? (i := i) (by rw [List.getElem?_zip_eq_some]; exact ⟨hx, hk⟩)
  simpa using List.all_eq_true.1 h _ hm
theorem lst_types : ∀ x ∈ lst, ∃ g, Tryd.prog.globalNamed x.1 = some g ∧ (Tryd.prog.globals[g]?).map (·.type) = some 26 := by
  have h : (lst.all fun x => match Tryd.prog.globalNamed x.1 with | some g => (Tryd.prog.globals[g]?).map (·.type) == some 26 | none => false) = true := by kernel_rfl
  intro x hx
  have := List.all_eq_true.1 h x hx
  split at this
  · rename_i g hg
    exact ⟨g, hg, by simpa using this⟩
  · cases this

set_option maxRecDepth 100000 in
theorem contract (H : Type) (enc : TypeId × Value → H) (W : World) (base : Nat) (args : Array Value) (ds gs : List (DataW H)) (before : List MemPlace)
    (hval : ∀ (j : Nat) t v, Tryd.f5.params[j]? = some t → args[j]? = some v → Value.okWide Tryd.prog W .any base t v)
    (hW : DataW.Whole enc Tryd.prog Tryd.f5.params.toList Rows.journalOnceSpec.vars false W args.toList ds gs before) (hL : laidMetH Tryd.prog Rows.journalOnceRow.laid W) :
    Calls Tryd.prog 5 args W fun e W' => ∃ v, e = .returned v ∧ Rows.journalOnceSpec.post enc Tryd.prog Tryd.f5 false true false false W args v W' := by
  refine law_post rfl (fun ds hds => by
    match ds, hds with
    | [_, _], _ => rfl) rfl (fun t ht => by
    have := List.all_eq_true.1 readable t ht
    simpa using this) hW ?_
  rw [MakeChecks.laidMetH_plain _ _ _ (by kernel_rfl), lst_eq] at hL
  obtain ⟨ad, hs⟩ := sents_of_laid K lst rfl (by decide) lst_names lst_types hL
  obtain ⟨p, q, hA0, hV, rfl, hfz, hnd⟩ := hW
  obtain ⟨rfl, rfl⟩ := trodVars_none hV
  have hA : DataW.TrodAll enc Tryd.prog W 0 (fun _ => true) true Tryd.f5.params.toList args.toList ds p := hA0
  rw [Tryd.params5] at hA hval
  clear hA0 hV
  obtain ⟨v0, vs0, d0, ds0, p0, q0, hargs, rfl, rfl, h0, r0⟩ := trodAll_cons hA
  obtain ⟨v1, vs1, d1, ds1, p1, q1, rfl, rfl, rfl, h1, r1⟩ := trodAll_cons r0
  obtain ⟨rfl, rfl, rfl⟩ := trodAll_nil r1
  obtain rfl : args = #[v0, v1] := by cases args; simp_all
  obtain ⟨n0, rfl, _, _, _⟩ := open_int Tryd.underlying3 (hval 0 3 v0 rfl rfl) h0
  obtain ⟨d, rfl, _⟩ := open_undo (hval 1 37 v1 rfl rfl) h1
  exact once_walk ⟨by decide, by decide, by decide, by decide, by decide⟩ hs n0 d

/-! ### The row and its card -/
theorem laid_met (os : Os) (args : Array Value) : laidMetH Tryd.prog Rows.journalOnceRow.laid ((World.doorLaid Tryd.prog 1000 os).forCall (fun _ _ => 0) ⟨#[], args, []⟩).memory :=
  laidMetH_of_parts3 (fuel := 8) (laidMet_of_run' 8 (by kernel_rfl) (by kernel_rfl)) (by kernel_rfl) (by kernel_rfl)
theorem reads (os : Os) {H : Type} (enc : TypeId × Value → H) : ∃ places, DataW.whole enc Tryd.prog ((World.doorLaid Tryd.prog 1000 os).forCall (fun _ _ => 0) ⟨#[], #[.int .i64 0, .agg #[.int .i64 0, .int .i64 0, .int .i64 0, .int .i64 0, .int .i64 0, .int .i64 0, .int .i64 0, .int .i64 0, .slice none 0 0, .int .i64 0, .int .i64 0]], []⟩).memory Tryd.f5.params.toList Rows.journalOnceSpec.vars false (#[.int .i64 0, .agg #[.int .i64 0, .int .i64 0, .int .i64 0, .int .i64 0, .int .i64 0, .int .i64 0, .int .i64 0, .int .i64 0, .slice none 0 0, .int .i64 0, .int .i64 0]] : Array Value).toList 8 = some ([.lit (.int .i64 0), .agg [.lit (.int .i64 0), .lit (.int .i64 0), .agg [.lit (.int .i64 0), .agg [.lit (.int .i64 0), .lit (.int .i64 0), .lit (.int .i64 0), .lit (.int .i64 0)], .lit (.int .i64 0)], .nil, .lit (.int .i64 0), .lit (.int .i64 0)]], [], places) :=
  ⟨[], by kernel_rfl⟩

set_option maxRecDepth 100000 in
theorem lifted (os : Os) (started : os.Started) (H : Type) (enc : TypeId × Value → H) (F : Stop.Interp) :
    ReturnsInHanded {} Tryd.checked os 5 .any ((OpenSpec.ofChange Rows.journalOnceSpec).preRow enc Tryd.prog Tryd.f5 Rows.journalOnceRow.domain false Rows.journalOnceRow.laid) (((OpenSpec.ofChange Rows.journalOnceSpec).at F).post enc Tryd.prog Tryd.f5 false true false false) := by
  obtain ⟨places, hx⟩ := reads os enc
  refine returnsInHanded_of_row (C := Tryd.checked) (s := OpenSpec.ofChange Rows.journalOnceSpec) own started (by kernel_rfl) Tryd.func5
    (witness_row_atRef (enc := enc) (C := Tryd.checked) false (World.doorLaid Tryd.prog 1000 os) #[.int .i64 0, .agg #[.int .i64 0, .int .i64 0, .int .i64 0, .int .i64 0, .int .i64 0, .int .i64 0, .int .i64 0, .int .i64 0, .slice none 0 0, .int .i64 0, .int .i64 0]] rfl (by kernel_rfl) (by kernel_rfl) (by kernel_rfl)
      (OpenSpec.preRow_of_cond 8 hx (by kernel_rfl) (fun k hk => by cases hk) (by kernel_rfl) (laid_met os _))) ?_
  intro W base args ds gs before hval hW _ _ _ hL _ _
  exact contract H enc W base args ds gs before hval hW hL

theorem said : Rows.JournalOnceSaid :=
  OpenClaim.holds_of_cond 5 Tryd.f5 rfl rfl rfl rfl rfl rfl rfl ⟨rfl, rfl, rfl, rfl, rfl⟩ rfl rfl rfl rfl rfl (by kernel_rfl) Tryd.func5 (by kernel_rfl)
    (of_decide_eq_true (by kernel_rfl)) (by unfold Func.isWrapper; first | (rw [if_pos (by decide +kernel)]; kernel_rfl) | (rw [if_neg (by decide +kernel)]; exact ⟨rfl, rfl⟩))
    (fun os started H enc _ F => by rw [OpenClaim.pre_eq_preRow]; exact lifted os started H enc F)

theorem plain (f : FuncId) (fn : Func) (hf : Tryd.pinned.checked.prog.funcNamed "pasodoble/pasodoblelaw13.JournalOnce" = some f) (hfn : Tryd.pinned.checked.prog.funcs[f]? = some fn) :
    true = Tryd.pinned.checked.prog.looks [] ∧ ∀ (j : Nat) t, fn.params[j]? = some t → Tryd.pinned.checked.prog.wantsStandIn t = false := by
  obtain rfl : f = 5 := Option.some.inj ((show Tryd.prog.funcNamed "pasodoble/pasodoblelaw13.JournalOnce" = some 5 by kernel_rfl).symm.trans hf) |>.symm
  obtain rfl : fn = Tryd.f5 := (Option.some.inj (Tryd.func5.symm.trans hfn)).symm
  refine ⟨by kernel_rfl, fun j t ht => ?_⟩
  have h : (Tryd.f5.params.all fun t => !Tryd.prog.wantsStandIn t) = true := by kernel_rfl
  have := Array.all_eq_true'.1 h t (Array.mem_of_getElem? ht)
  have h2 : Tryd.prog.wantsStandIn t = false := by simpa using this
  exact h2

theorem card : Rows.JournalOnceCardSaid :=
  Claim7.holds_tied_plain_at .later [] _ _ _ _ said (fun _ h => by cases h) (by kernel_rfl) (fun _ h => by cases h) journalOnce_row_tie rfl ⟨rfl, rfl⟩ (by kernel_rfl) rfl plain (by kernel_rfl)
end Go.Proofs.YtioeafjlbdpjoaaDoor.journalOnce

/- NodeNone's card: NodeNone returns true, and never panics, for every message and draw. No condition. -/
import Derived.Test.YtgihdlhoaimlpaaGreatDoorNNfacts
namespace Go.Proofs.YtgihdlhoaimlpaaGreatDoor.nodeNone
open Go.ChangeShapes Go.WideShapes Go.ChangeAt Go.RowKit Go.Proofs.YtgihdlhoaimlpaaGreatDoor.AM
set_option maxRecDepth 100000

noncomputable def zeroArgs : Array Value := #[zeroMsg, .int .u64 0]
theorem reads (os : Os) {H : Type} (enc : TypeId × Value → H) : (DataW.whole enc Tryz.prog ((laidWorld os).forCall (fun _ _ => 0) ⟨#[], zeroArgs, []⟩).memory Tryz.f6.params.toList Rows.nodeNoneSpec.vars false zeroArgs.toList 8).isSome = true := by kernel_rfl

theorem lifted (os : Os) (started : os.Started) (H : Type) (enc : TypeId × Value → H) (F : Stop.Interp) :
    ReturnsInHanded {} Tryz.checked os 6 .any ((OpenSpec.ofChange Rows.nodeNoneSpec).preRow enc Tryz.prog Tryz.f6 Rows.nodeNoneRow.domain false Rows.nodeNoneRow.laid) (((OpenSpec.ofChange Rows.nodeNoneSpec).at F).post enc Tryz.prog Tryz.f6 false true false false) := by
  refine returnsInHanded_of_row (C := Tryz.checked) (s := OpenSpec.ofChange Rows.nodeNoneSpec) own started (by kernel_rfl) Tryz.func6
    (witness_row_at (enc := enc) (C := Tryz.checked) false (laidWorld os) zeroArgs rfl (by kernel_rfl) (by kernel_rfl) (by kernel_rfl)
      (OpenSpec.preRow_of_cond 8 (Option.some_get (reads os enc)).symm (by kernel_rfl) (fun k hk => by cases hk) (by kernel_rfl) (laid_met os))) ?_
  intro W base args ds gs before hval hW _ _ _ hL hsh _
  exact contract H enc W base args ds gs before hval hW hL hsh

theorem named6 : Tryz.pinned.checked.prog.funcNamed Rows.nodeNoneRow.func = some 6 := by kernel_rfl
theorem instance6 : Tryz.f6.isInstance Tryz.pinned.checked.prog Rows.nodeNoneRow.origin Rows.nodeNoneRow.targs := of_decide_eq_true (by kernel_rfl)
theorem wrapper6 : Tryz.f6.isWrapper Tryz.pinned.checked.prog Rows.nodeNoneRow.wrapper Rows.nodeNoneRow.mainSum := by unfold Func.isWrapper; first | (rw [if_pos (by decide +kernel)]; kernel_rfl) | (rw [if_neg (by decide +kernel)]; exact ⟨rfl, rfl⟩)
theorem said : Rows.NodeNoneSaid :=
  OpenClaim.holds_of_cond 6 Tryz.f6 rfl rfl rfl rfl rfl rfl rfl ⟨rfl, rfl, rfl, rfl, rfl⟩ rfl rfl rfl rfl rfl named6 Tryz.func6 joined instance6 wrapper6
    (fun os started H enc _ F => by rw [OpenClaim.pre_eq_preRow]; exact lifted os started H enc F)

theorem looks0 : true = Tryz.pinned.checked.prog.looks [] := by kernel_rfl
theorem byText : Rows.nodeNoneRow.wfByText (OpenSpec.ofChange Rows.nodeNoneSpec) = true := by kernel_rfl
theorem goes0 : false = Rows.nodeNoneRow.goesBy Tryz.pinned.checked.prog := by kernel_rfl
theorem wants46 : Tryz.prog.wantsStandIn 46 = false := by kernel_rfl
theorem wants41 : Tryz.prog.wantsStandIn 41 = false := by kernel_rfl
theorem plain (f : FuncId) (fn : Func) (hf : Tryz.pinned.checked.prog.funcNamed "penstock/penstocklaw18.NodeNone" = some f) (hfn : Tryz.pinned.checked.prog.funcs[f]? = some fn) :
    true = Tryz.pinned.checked.prog.looks [] ∧ ∀ (j : Nat) t, fn.params[j]? = some t → Tryz.pinned.checked.prog.wantsStandIn t = false := by
  obtain rfl : f = 6 := Option.some.inj ((show Tryz.prog.funcNamed "penstock/penstocklaw18.NodeNone" = some 6 by kernel_rfl).symm.trans hf) |>.symm
  obtain rfl : fn = Tryz.f6 := (Option.some.inj (Tryz.func6.symm.trans hfn)).symm
  refine ⟨looks0, fun j t ht => ?_⟩
  rw [Tryz.params6] at ht
  have := Array.mem_of_getElem? ht
  simp only [List.mem_toArray, List.mem_cons, List.not_mem_nil, or_false] at this
  rcases this with rfl | rfl
  · exact wants46
  · exact wants41

/-- THE CARD. -/
theorem card : Rows.NodeNoneCardSaid :=
  Claim7.holds_tied_plain_at .later [] _ _ _ _ said (fun _ h => by cases h) byText (fun _ h => by cases h) nodeNone_row_tie rfl ⟨rfl, rfl⟩ (by kernel_rfl) rfl plain goes0

end Go.Proofs.YtgihdlhoaimlpaaGreatDoor.nodeNone

/-
  The law StoreNone of chapter 15 (a nil and a zero store answer as the document says, whatever the key) returns true for every input and leaves its argument as it was: the tied card 'Rows.StoreNoneCardSaid'.
  Conditions: none beyond the row's own. How: an evaluator of the model's code, proved sound here for every program that passes its checks, is run by the kernel on the law with an opaque key.
-/
import Derived.Test.YtcfmdhkopcijoabGreatDoorEvR
import Derived.Test.YtcfmdhkopcijoabGreatDoorCards
import Derived.Test.YtcfmdhkopcijoabGreatDoorTie
import Derived.SevenTiedAt
set_option linter.all false
/-! The card. -/
namespace Go.Proofs.YtcfmdhkopcijoabGreatDoor
open Go
theorem looks_is : true = Tryz.prog.looks [] := by kernel_rfl
theorem wants9 : Tryz.prog.wantsStandIn 9 = false := by kernel_rfl
theorem plain (f : FuncId) (fn : Func) (hf : Tryz.pinned.checked.prog.funcNamed "chancery/chancerylaw15.StoreNone" = some f) (hfn : Tryz.pinned.checked.prog.funcs[f]? = some fn) :
    true = Tryz.pinned.checked.prog.looks [] ∧ ∀ (j : Nat) t, fn.params[j]? = some t → Tryz.pinned.checked.prog.wantsStandIn t = false := by
  obtain rfl : f = 3 := Option.some.inj (named3.symm.trans hf) |>.symm
  obtain rfl : fn = Tryz.f3 := (Option.some.inj (Tryz.func3.symm.trans hfn)).symm
  refine ⟨looks_is, fun j t ht => ?_⟩
  rw [Tryz.params3] at ht
  obtain rfl : t = 9 := by simpa using Array.mem_of_getElem? ht
  exact wants9
theorem wf_text : OpenClaim.wfByText (OpenSpec.ofChange Rows.storeNoneSpec) Rows.storeNoneRow = true := by kernel_rfl
theorem main_is : Tryz.prog.mainIs = some (true, ("9dd5b82fa884ea9acd1c14e2cbb670bfdd4f6b95d2bdba3ffce946b88596d242" : String).toList) := by kernel_rfl
theorem goes_by : false = Rows.storeNoneRow.goesBy Tryz.prog := by kernel_rfl
theorem card : Rows.StoreNoneCardSaid :=
  Claim7.holds_tied_plain_at .later [] _ _ _ _ said (fun _ h => by cases h) wf_text (fun _ h => by cases h) storeNone_row_tie rfl ⟨rfl, rfl⟩ main_is rfl plain goes_by
#print axioms card
end Go.Proofs.YtcfmdhkopcijoabGreatDoor

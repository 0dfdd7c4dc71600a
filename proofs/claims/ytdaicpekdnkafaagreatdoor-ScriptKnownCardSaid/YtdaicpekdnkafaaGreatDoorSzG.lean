/- The card of ScriptKnown. -/
import Derived.Test.YtdaicpekdnkafaaGreatDoorSzE
namespace Go.Proofs.YtdaicpekdnkafaaGreatDoor
open Go.ChangeShapes Go.WideShapes Go.ChangeAt Go.RowKit
set_option maxRecDepth 100000
theorem known_wf : Rows.scriptKnownRow.wfByText (OpenSpec.ofChange Rows.scriptKnownSpec) = true := by kernel_rfl
theorem known_main : Tryz.pinned.checked.prog.mainIs = some (true, "f5ac536a7c79c8ffe429f75ec77dc878021df6ca4b708a7209e5d5b6ab1655da".toList) := by kernel_rfl
theorem known_looks : true = Tryz.pinned.checked.prog.looks [] := by kernel_rfl
theorem known_goes : false = Rows.scriptKnownRow.goesBy Tryz.pinned.checked.prog := by kernel_rfl
theorem known_card : Rows.ScriptKnownCardSaid :=
  Claim7.holds_tied_plain_at .later [] [.data, .data, .data, .data, .sentinel, .sentinel, .pinned] true (true, "f5ac536a7c79c8ffe429f75ec77dc878021df6ca4b708a7209e5d5b6ab1655da") true known_holds (fun _ h => by cases h) known_wf (fun _ h => by cases h) scriptKnown_row_tie rfl ⟨rfl, rfl⟩ known_main rfl
    (fun f fn hf hfn => by
      obtain rfl : f = 4 := Option.some.inj (known_fn.symm.trans hf) |>.symm
      obtain rfl : fn = Tryz.f4 := (Option.some.inj (Tryz.func4.symm.trans hfn)).symm
      exact ⟨known_looks, fun j t ht => by
        rw [Tryz.params4] at ht
        simp at ht⟩)
    known_goes
#print axioms known_card
end Go.Proofs.YtdaicpekdnkafaaGreatDoor

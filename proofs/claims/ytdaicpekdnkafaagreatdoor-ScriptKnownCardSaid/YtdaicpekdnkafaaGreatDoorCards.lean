/-
  DERIVED. GIVEN WITH THE SEED: THE CARDS: each row of YtdaicpekdnkafaaGreatDoorRows.lean that lists a variable, with what it lists TIED to the program's text (the seventh form; the later family's looks); each row that meets fmt, with fmt's text TOLD by the authors' own Lean function (tested against real Go, not proved from fmt's source: count such statements apart). THE CARD IS WHAT COUNTS. Prove the row's statement (the work); the ties are given (YtdaicpekdnkafaaGreatDoorTie.lean); close each card by the builder's one call (the guide's Derived/Test/ToyasCard.lean, 'card_holds'). Laid BY PROGRAM, IN A SANDBOX (cutbox-door.mjs). By AI agents, Wed Nov 11 2026. No macro, syntax, notation, axiom, sorry.
-/
import Derived.Test.YtdaicpekdnkafaaGreatDoorRows
import GoSem.ClaimSeven
namespace Go.Proofs.YtdaicpekdnkafaaGreatDoor
namespace Rows

/-- THE TIED CARD OF 'strongboxlaw23.WorldSame'. -/
def worldSameCard : Claim7 := { stood := { row := worldSameRow, standIns := [], harness := (true, "f5ac536a7c79c8ffe429f75ec77dc878021df6ca4b708a7209e5d5b6ab1655da"), looks := true }, kinds := [], alts := [], laidByText := true, laidKinds := [.data, .data, .data, .data, .sentinel, .sentinel, .pinned], laidTests := true, laidLooks := .later }
def WorldSameCardSaid : Prop := Claim7.holds Tryz.pinned (.plain (OpenSpec.ofChange worldSameSpec)) worldSameCard

/-- THE TIED CARD OF 'strongboxlaw24.ScriptKnown'. -/
def scriptKnownCard : Claim7 := { stood := { row := scriptKnownRow, standIns := [], harness := (true, "f5ac536a7c79c8ffe429f75ec77dc878021df6ca4b708a7209e5d5b6ab1655da"), looks := true }, kinds := [], alts := [], laidByText := true, laidKinds := [.data, .data, .data, .data, .sentinel, .sentinel, .pinned], laidTests := true, laidLooks := .later }
def ScriptKnownCardSaid : Prop := Claim7.holds Tryz.pinned (.plain (OpenSpec.ofChange scriptKnownSpec)) scriptKnownCard

/-- THE SECOND FORM's CARD OF 'strongboxlaw23.WorldSame'. -/
def worldSameUptoCard : Claim7 := { stood := { row := worldSameUptoRow, standIns := [], harness := (true, "f5ac536a7c79c8ffe429f75ec77dc878021df6ca4b708a7209e5d5b6ab1655da"), looks := true }, kinds := [], alts := [], laidByText := true, laidKinds := [.data, .data, .data, .data, .sentinel, .sentinel, .pinned], laidTests := true, laidLooks := .later }
def WorldSameUptoCardSaid : Prop := Claim7.holds Tryz.pinned (.plain (OpenSpec.upto worldSameSpec)) worldSameUptoCard

/-- THE SECOND FORM's CARD OF 'strongboxlaw24.ScriptKnown'. -/
def scriptKnownUptoCard : Claim7 := { stood := { row := scriptKnownUptoRow, standIns := [], harness := (true, "f5ac536a7c79c8ffe429f75ec77dc878021df6ca4b708a7209e5d5b6ab1655da"), looks := true }, kinds := [], alts := [], laidByText := true, laidKinds := [.data, .data, .data, .data, .sentinel, .sentinel, .pinned], laidTests := true, laidLooks := .later }
def ScriptKnownUptoCardSaid : Prop := Claim7.holds Tryz.pinned (.plain (OpenSpec.upto scriptKnownSpec)) scriptKnownUptoCard
end Rows
end Go.Proofs.YtdaicpekdnkafaaGreatDoor

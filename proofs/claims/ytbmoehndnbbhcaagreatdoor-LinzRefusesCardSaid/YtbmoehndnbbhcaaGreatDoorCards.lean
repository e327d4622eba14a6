/-
  DERIVED. GIVEN WITH THE SEED: THE CARDS: each row of YtbmoehndnbbhcaaGreatDoorRows.lean that lists a variable, with what it lists TIED to the program's text (the seventh form; the later family's looks); each row that meets fmt, with fmt's text TOLD by the authors' own Lean function (tested against real Go, not proved from fmt's source: count such statements apart). THE CARD IS WHAT COUNTS. Prove the row's statement (the work); the ties are given (YtbmoehndnbbhcaaGreatDoorTie.lean); close each card by the builder's one call (the guide's Derived/Test/ToyasCard.lean, 'card_holds'). Laid BY PROGRAM, IN A SANDBOX (cutbox-door.mjs). By AI agents, Wed Nov 11 2026. No macro, syntax, notation, axiom, sorry.
-/
import Derived.Test.YtbmoehndnbbhcaaGreatDoorRows
import GoSem.ClaimSeven
namespace Go.Proofs.YtbmoehndnbbhcaaGreatDoor
namespace Rows

/-- THE TIED CARD OF 'ctrielaw28.LinzRefuses'. -/
def linzRefusesCard : Claim7 := { stood := { row := linzRefusesRow, standIns := [], harness := (true, "39b7676cec83d95f21506ad2d97f3404e1077bbb6ecf47285a0b9d0abfec8523"), looks := true }, kinds := [], alts := [], laidByText := true, laidKinds := [.data, .data, .data], laidTests := true, laidLooks := .later }
def LinzRefusesCardSaid : Prop := Claim7.holds Tryz.pinned (.plain (OpenSpec.ofChange linzRefusesSpec)) linzRefusesCard

/-- THE SECOND FORM's CARD OF 'ctrielaw28.LinzRefuses'. -/
def linzRefusesUptoCard : Claim7 := { stood := { row := linzRefusesUptoRow, standIns := [], harness := (true, "39b7676cec83d95f21506ad2d97f3404e1077bbb6ecf47285a0b9d0abfec8523"), looks := true }, kinds := [], alts := [], laidByText := true, laidKinds := [.data, .data, .data], laidTests := true, laidLooks := .later }
def LinzRefusesUptoCardSaid : Prop := Claim7.holds Tryz.pinned (.plain (OpenSpec.upto linzRefusesSpec)) linzRefusesUptoCard
end Rows
end Go.Proofs.YtbmoehndnbbhcaaGreatDoor

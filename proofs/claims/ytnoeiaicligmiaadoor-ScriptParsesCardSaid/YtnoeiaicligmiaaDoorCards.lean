/-
  DERIVED. GIVEN WITH THE SEED: THE CARDS: each row of YtnoeiaicligmiaaDoorRows.lean that lists a variable, with what it lists TIED to the program's text (the seventh form; the later family's looks); each row that meets fmt, with fmt's text TOLD by the authors' own Lean function (tested against real Go, not proved from fmt's source: count such statements apart). THE CARD IS WHAT COUNTS. Prove the row's statement (the work); the ties are given (YtnoeiaicligmiaaDoorTie.lean); close each card by the builder's one call (the guide's Derived/Test/ToyasCard.lean, 'card_holds'). Laid BY PROGRAM, IN A SANDBOX (cutbox-door.mjs). By AI agents, Wed Nov 11 2026. No macro, syntax, notation, axiom, sorry.
-/
import Derived.Test.YtnoeiaicligmiaaDoorRows
import GoSem.ClaimSeven
namespace Go.Proofs.YtnoeiaicligmiaaDoor
namespace Rows

/-- THE TIED CARD OF 'ctrielaw24.ScriptParses'. -/
def scriptParsesCard : Claim7 := { stood := { row := scriptParsesRow, standIns := [], harness := (true, "d7b30c3792966cc1258e85767fbe53460cdd64128e63b7379dcba09c9d59b98f"), looks := false }, kinds := [], alts := [], laidByText := true, laidKinds := [.data, .data, .data, .data, .pinned], laidTests := true, laidLooks := .later }
def ScriptParsesCardSaid : Prop := Claim7.holds Tryd.pinned (.plain (OpenSpec.ofChange scriptParsesSpec)) scriptParsesCard

/-- THE TIED CARD OF 'ctrielaw24.ScriptRoundTrip'. -/
def scriptRoundTripCard : Claim7 := { stood := { row := scriptRoundTripRow, standIns := [], harness := (true, "d7b30c3792966cc1258e85767fbe53460cdd64128e63b7379dcba09c9d59b98f"), looks := false }, kinds := [], alts := [], laidByText := true, laidKinds := [.data, .data, .data, .data, .pinned], laidTests := true, laidLooks := .later }
def ScriptRoundTripCardSaid : Prop := Claim7.holds Tryd.pinned (.plain (OpenSpec.ofChange scriptRoundTripSpec)) scriptRoundTripCard

/-- THE TIED CARD OF 'ctrielaw24.ScriptFormats'. -/
def scriptFormatsCard : Claim7 := { stood := { row := scriptFormatsRow, standIns := [], harness := (true, "d7b30c3792966cc1258e85767fbe53460cdd64128e63b7379dcba09c9d59b98f"), looks := false }, kinds := [], alts := [], laidByText := true, laidKinds := [.data, .data, .data, .data, .pinned], laidTests := true, laidLooks := .later }
def ScriptFormatsCardSaid : Prop := Claim7.holds Tryd.pinned (.plain (OpenSpec.ofChange scriptFormatsSpec)) scriptFormatsCard

/-- THE TIED CARD OF 'ctrielaw24.ScriptLimits'. -/
def scriptLimitsCard : Claim7 := { stood := { row := scriptLimitsRow, standIns := [], harness := (true, "d7b30c3792966cc1258e85767fbe53460cdd64128e63b7379dcba09c9d59b98f"), looks := false }, kinds := [], alts := [], laidByText := true, laidKinds := [.data, .data, .data, .data, .pinned], laidTests := true, laidLooks := .later }
def ScriptLimitsCardSaid : Prop := Claim7.holds Tryd.pinned (.plain (OpenSpec.ofChange scriptLimitsSpec)) scriptLimitsCard

/-- THE TIED CARD OF 'ctrielaw24.ScriptEqual'. -/
def scriptEqualCard : Claim7 := { stood := { row := scriptEqualRow, standIns := [], harness := (true, "d7b30c3792966cc1258e85767fbe53460cdd64128e63b7379dcba09c9d59b98f"), looks := false }, kinds := [], alts := [], laidByText := true, laidKinds := [.data, .data, .data, .data, .pinned], laidTests := true, laidLooks := .later }
def ScriptEqualCardSaid : Prop := Claim7.holds Tryd.pinned (.plain (OpenSpec.ofChange scriptEqualSpec)) scriptEqualCard

/-- THE SECOND FORM's CARD OF 'ctrielaw24.ScriptParses'. -/
def scriptParsesUptoCard : Claim7 := { stood := { row := scriptParsesUptoRow, standIns := [], harness := (true, "d7b30c3792966cc1258e85767fbe53460cdd64128e63b7379dcba09c9d59b98f"), looks := false }, kinds := [], alts := [], laidByText := true, laidKinds := [.data, .data, .data, .data, .pinned], laidTests := true, laidLooks := .later }
def ScriptParsesUptoCardSaid : Prop := Claim7.holds Tryd.pinned (.plain (OpenSpec.upto scriptParsesSpec)) scriptParsesUptoCard

/-- THE SECOND FORM's CARD OF 'ctrielaw24.ScriptRoundTrip'. -/
def scriptRoundTripUptoCard : Claim7 := { stood := { row := scriptRoundTripUptoRow, standIns := [], harness := (true, "d7b30c3792966cc1258e85767fbe53460cdd64128e63b7379dcba09c9d59b98f"), looks := false }, kinds := [], alts := [], laidByText := true, laidKinds := [.data, .data, .data, .data, .pinned], laidTests := true, laidLooks := .later }
def ScriptRoundTripUptoCardSaid : Prop := Claim7.holds Tryd.pinned (.plain (OpenSpec.upto scriptRoundTripSpec)) scriptRoundTripUptoCard

/-- THE SECOND FORM's CARD OF 'ctrielaw24.ScriptFormats'. -/
def scriptFormatsUptoCard : Claim7 := { stood := { row := scriptFormatsUptoRow, standIns := [], harness := (true, "d7b30c3792966cc1258e85767fbe53460cdd64128e63b7379dcba09c9d59b98f"), looks := false }, kinds := [], alts := [], laidByText := true, laidKinds := [.data, .data, .data, .data, .pinned], laidTests := true, laidLooks := .later }
def ScriptFormatsUptoCardSaid : Prop := Claim7.holds Tryd.pinned (.plain (OpenSpec.upto scriptFormatsSpec)) scriptFormatsUptoCard

/-- THE SECOND FORM's CARD OF 'ctrielaw24.ScriptLimits'. -/
def scriptLimitsUptoCard : Claim7 := { stood := { row := scriptLimitsUptoRow, standIns := [], harness := (true, "d7b30c3792966cc1258e85767fbe53460cdd64128e63b7379dcba09c9d59b98f"), looks := false }, kinds := [], alts := [], laidByText := true, laidKinds := [.data, .data, .data, .data, .pinned], laidTests := true, laidLooks := .later }
def ScriptLimitsUptoCardSaid : Prop := Claim7.holds Tryd.pinned (.plain (OpenSpec.upto scriptLimitsSpec)) scriptLimitsUptoCard

/-- THE SECOND FORM's CARD OF 'ctrielaw24.ScriptEqual'. -/
def scriptEqualUptoCard : Claim7 := { stood := { row := scriptEqualUptoRow, standIns := [], harness := (true, "d7b30c3792966cc1258e85767fbe53460cdd64128e63b7379dcba09c9d59b98f"), looks := false }, kinds := [], alts := [], laidByText := true, laidKinds := [.data, .data, .data, .data, .pinned], laidTests := true, laidLooks := .later }
def ScriptEqualUptoCardSaid : Prop := Claim7.holds Tryd.pinned (.plain (OpenSpec.upto scriptEqualSpec)) scriptEqualUptoCard
end Rows
end Go.Proofs.YtnoeiaicligmiaaDoor

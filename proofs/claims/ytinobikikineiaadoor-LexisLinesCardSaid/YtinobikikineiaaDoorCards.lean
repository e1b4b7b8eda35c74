/-
  DERIVED. GIVEN WITH THE SEED: THE CARDS: each row of YtinobikikineiaaDoorRows.lean that lists a variable, with what it lists TIED to the program's text (the seventh form; the later family's looks); each row that meets fmt, with fmt's text TOLD by the authors' own Lean function (tested against real Go, not proved from fmt's source: count such statements apart). THE CARD IS WHAT COUNTS. Prove the row's statement (the work); the ties are given (YtinobikikineiaaDoorTie.lean); close each card by the builder's one call (the guide's Derived/Test/ToyasCard.lean, 'card_holds'). Laid BY PROGRAM, IN A SANDBOX (cutbox-door.mjs). By AI agents, Wed Nov 11 2026. No macro, syntax, notation, axiom, sorry.
-/
import Derived.Test.YtinobikikineiaaDoorRows
import GoSem.ClaimSeven
namespace Go.Proofs.YtinobikikineiaaDoor
namespace Rows

/-- THE TIED CARD OF 'semblancelaw1.LexisBlanks'. -/
def lexisBlanksCard : Claim7 := { stood := { row := lexisBlanksRow, standIns := [], harness := (true, "d602bb50b1bf4d936f27d8fed10013c791721d65dd1b1c7ae7016f654e3cca9c"), looks := true }, kinds := [], alts := [], laidByText := true, laidKinds := [.data, .sentinel, .sentinel, .pinned], laidTests := true, laidLooks := .later }
def LexisBlanksCardSaid : Prop := Claim7.holds Tryd.pinned (.plain (OpenSpec.ofChange lexisBlanksSpec)) lexisBlanksCard

/-- THE TIED CARD OF 'semblancelaw1.LexisLines'. -/
def lexisLinesCard : Claim7 := { stood := { row := lexisLinesRow, standIns := [], harness := (true, "d602bb50b1bf4d936f27d8fed10013c791721d65dd1b1c7ae7016f654e3cca9c"), looks := true }, kinds := [], alts := [], laidByText := true, laidKinds := [.data, .sentinel, .sentinel, .pinned], laidTests := true, laidLooks := .later }
def LexisLinesCardSaid : Prop := Claim7.holds Tryd.pinned (.plain (OpenSpec.ofChange lexisLinesSpec)) lexisLinesCard

/-- THE TIED CARD OF 'semblancelaw1.LexisScans'. -/
def lexisScansCard : Claim7 := { stood := { row := lexisScansRow, standIns := [], harness := (true, "d602bb50b1bf4d936f27d8fed10013c791721d65dd1b1c7ae7016f654e3cca9c"), looks := true }, kinds := [], alts := [], laidByText := true, laidKinds := [.data, .sentinel, .sentinel, .sentinel, .sentinel, .sentinel, .sentinel, .sentinel, .sentinel, .sentinel, .sentinel, .sentinel, .sentinel, .sentinel, .sentinel, .sentinel, .sentinel, .sentinel, .sentinel, .sentinel, .pinned], laidTests := true, laidLooks := .later }
def LexisScansCardSaid : Prop := Claim7.holds Tryd.pinned (.plain (OpenSpec.ofChange lexisScansSpec)) lexisScansCard

/-- THE TIED CARD OF 'semblancelaw1.LexisPlaces'. -/
def lexisPlacesCard : Claim7 := { stood := { row := lexisPlacesRow, standIns := [], harness := (true, "d602bb50b1bf4d936f27d8fed10013c791721d65dd1b1c7ae7016f654e3cca9c"), looks := true }, kinds := [], alts := [], laidByText := true, laidKinds := [.data, .sentinel, .sentinel, .sentinel, .sentinel, .sentinel, .sentinel, .sentinel, .sentinel, .sentinel, .sentinel, .sentinel, .sentinel, .sentinel, .sentinel, .sentinel, .sentinel, .sentinel, .sentinel, .sentinel, .pinned], laidTests := true, laidLooks := .later }
def LexisPlacesCardSaid : Prop := Claim7.holds Tryd.pinned (.plain (OpenSpec.ofChange lexisPlacesSpec)) lexisPlacesCard

/-- THE TIED CARD OF 'semblancelaw1.LexisIs'. -/
def lexisIsCard : Claim7 := { stood := { row := lexisIsRow, standIns := [], harness := (true, "d602bb50b1bf4d936f27d8fed10013c791721d65dd1b1c7ae7016f654e3cca9c"), looks := true }, kinds := [], alts := [], laidByText := true, laidKinds := [.data, .sentinel, .sentinel, .sentinel, .sentinel, .sentinel, .sentinel, .sentinel, .sentinel, .sentinel, .sentinel, .sentinel, .sentinel, .sentinel, .sentinel, .sentinel, .sentinel, .sentinel, .sentinel, .sentinel, .pinned], laidTests := true, laidLooks := .later }
def LexisIsCardSaid : Prop := Claim7.holds Tryd.pinned (.plain (OpenSpec.ofChange lexisIsSpec)) lexisIsCard

/-- THE TIED CARD OF 'semblancelaw1.LexisDigits'. -/
def lexisDigitsCard : Claim7 := { stood := { row := lexisDigitsRow, standIns := [], harness := (true, "d602bb50b1bf4d936f27d8fed10013c791721d65dd1b1c7ae7016f654e3cca9c"), looks := true }, kinds := [], alts := [], laidByText := true, laidKinds := [.data, .sentinel, .sentinel, .sentinel, .sentinel, .sentinel, .sentinel, .sentinel, .sentinel, .sentinel, .sentinel, .sentinel, .sentinel, .sentinel, .sentinel, .sentinel, .sentinel, .sentinel, .sentinel, .sentinel, .pinned], laidTests := true, laidLooks := .later }
def LexisDigitsCardSaid : Prop := Claim7.holds Tryd.pinned (.plain (OpenSpec.ofChange lexisDigitsSpec)) lexisDigitsCard

/-- THE TIED CARD OF 'semblancelaw1.LexisWords'. -/
def lexisWordsCard : Claim7 := { stood := { row := lexisWordsRow, standIns := [], harness := (true, "d602bb50b1bf4d936f27d8fed10013c791721d65dd1b1c7ae7016f654e3cca9c"), looks := true }, kinds := [], alts := [], laidByText := true, laidKinds := [.data, .sentinel, .sentinel, .sentinel, .sentinel, .sentinel, .sentinel, .sentinel, .sentinel, .sentinel, .sentinel, .sentinel, .sentinel, .sentinel, .sentinel, .sentinel, .sentinel, .sentinel, .sentinel, .sentinel, .pinned], laidTests := true, laidLooks := .later }
def LexisWordsCardSaid : Prop := Claim7.holds Tryd.pinned (.plain (OpenSpec.ofChange lexisWordsSpec)) lexisWordsCard

/-- THE TIED CARD OF 'semblancelaw1.LexisAs'. -/
def lexisAsCard : Claim7 := { stood := { row := lexisAsRow, standIns := [], harness := (true, "d602bb50b1bf4d936f27d8fed10013c791721d65dd1b1c7ae7016f654e3cca9c"), looks := true }, kinds := [], alts := [], laidByText := true, laidKinds := [.data, .handle, .sentinel, .sentinel, .pinned], laidTests := true, laidLooks := .later }
def LexisAsCardSaid : Prop := Claim7.holds Tryd.pinned (.plain (OpenSpec.ofChange lexisAsSpec)) lexisAsCard

/-- THE SECOND FORM's CARD OF 'semblancelaw1.LexisBlanks'. -/
def lexisBlanksUptoCard : Claim7 := { stood := { row := lexisBlanksUptoRow, standIns := [], harness := (true, "d602bb50b1bf4d936f27d8fed10013c791721d65dd1b1c7ae7016f654e3cca9c"), looks := true }, kinds := [], alts := [], laidByText := true, laidKinds := [.data, .sentinel, .sentinel, .pinned], laidTests := true, laidLooks := .later }
def LexisBlanksUptoCardSaid : Prop := Claim7.holds Tryd.pinned (.plain (OpenSpec.upto lexisBlanksSpec)) lexisBlanksUptoCard

/-- THE SECOND FORM's CARD OF 'semblancelaw1.LexisLines'. -/
def lexisLinesUptoCard : Claim7 := { stood := { row := lexisLinesUptoRow, standIns := [], harness := (true, "d602bb50b1bf4d936f27d8fed10013c791721d65dd1b1c7ae7016f654e3cca9c"), looks := true }, kinds := [], alts := [], laidByText := true, laidKinds := [.data, .sentinel, .sentinel, .pinned], laidTests := true, laidLooks := .later }
def LexisLinesUptoCardSaid : Prop := Claim7.holds Tryd.pinned (.plain (OpenSpec.upto lexisLinesSpec)) lexisLinesUptoCard

/-- THE SECOND FORM's CARD OF 'semblancelaw1.LexisScans'. -/
def lexisScansUptoCard : Claim7 := { stood := { row := lexisScansUptoRow, standIns := [], harness := (true, "d602bb50b1bf4d936f27d8fed10013c791721d65dd1b1c7ae7016f654e3cca9c"), looks := true }, kinds := [], alts := [], laidByText := true, laidKinds := [.data, .sentinel, .sentinel, .sentinel, .sentinel, .sentinel, .sentinel, .sentinel, .sentinel, .sentinel, .sentinel, .sentinel, .sentinel, .sentinel, .sentinel, .sentinel, .sentinel, .sentinel, .sentinel, .sentinel, .pinned], laidTests := true, laidLooks := .later }
def LexisScansUptoCardSaid : Prop := Claim7.holds Tryd.pinned (.plain (OpenSpec.upto lexisScansSpec)) lexisScansUptoCard

/-- THE SECOND FORM's CARD OF 'semblancelaw1.LexisPlaces'. -/
def lexisPlacesUptoCard : Claim7 := { stood := { row := lexisPlacesUptoRow, standIns := [], harness := (true, "d602bb50b1bf4d936f27d8fed10013c791721d65dd1b1c7ae7016f654e3cca9c"), looks := true }, kinds := [], alts := [], laidByText := true, laidKinds := [.data, .sentinel, .sentinel, .sentinel, .sentinel, .sentinel, .sentinel, .sentinel, .sentinel, .sentinel, .sentinel, .sentinel, .sentinel, .sentinel, .sentinel, .sentinel, .sentinel, .sentinel, .sentinel, .sentinel, .pinned], laidTests := true, laidLooks := .later }
def LexisPlacesUptoCardSaid : Prop := Claim7.holds Tryd.pinned (.plain (OpenSpec.upto lexisPlacesSpec)) lexisPlacesUptoCard

/-- THE SECOND FORM's CARD OF 'semblancelaw1.LexisIs'. -/
def lexisIsUptoCard : Claim7 := { stood := { row := lexisIsUptoRow, standIns := [], harness := (true, "d602bb50b1bf4d936f27d8fed10013c791721d65dd1b1c7ae7016f654e3cca9c"), looks := true }, kinds := [], alts := [], laidByText := true, laidKinds := [.data, .sentinel, .sentinel, .sentinel, .sentinel, .sentinel, .sentinel, .sentinel, .sentinel, .sentinel, .sentinel, .sentinel, .sentinel, .sentinel, .sentinel, .sentinel, .sentinel, .sentinel, .sentinel, .sentinel, .pinned], laidTests := true, laidLooks := .later }
def LexisIsUptoCardSaid : Prop := Claim7.holds Tryd.pinned (.plain (OpenSpec.upto lexisIsSpec)) lexisIsUptoCard

/-- THE SECOND FORM's CARD OF 'semblancelaw1.LexisDigits'. -/
def lexisDigitsUptoCard : Claim7 := { stood := { row := lexisDigitsUptoRow, standIns := [], harness := (true, "d602bb50b1bf4d936f27d8fed10013c791721d65dd1b1c7ae7016f654e3cca9c"), looks := true }, kinds := [], alts := [], laidByText := true, laidKinds := [.data, .sentinel, .sentinel, .sentinel, .sentinel, .sentinel, .sentinel, .sentinel, .sentinel, .sentinel, .sentinel, .sentinel, .sentinel, .sentinel, .sentinel, .sentinel, .sentinel, .sentinel, .sentinel, .sentinel, .pinned], laidTests := true, laidLooks := .later }
def LexisDigitsUptoCardSaid : Prop := Claim7.holds Tryd.pinned (.plain (OpenSpec.upto lexisDigitsSpec)) lexisDigitsUptoCard

/-- THE SECOND FORM's CARD OF 'semblancelaw1.LexisWords'. -/
def lexisWordsUptoCard : Claim7 := { stood := { row := lexisWordsUptoRow, standIns := [], harness := (true, "d602bb50b1bf4d936f27d8fed10013c791721d65dd1b1c7ae7016f654e3cca9c"), looks := true }, kinds := [], alts := [], laidByText := true, laidKinds := [.data, .sentinel, .sentinel, .sentinel, .sentinel, .sentinel, .sentinel, .sentinel, .sentinel, .sentinel, .sentinel, .sentinel, .sentinel, .sentinel, .sentinel, .sentinel, .sentinel, .sentinel, .sentinel, .sentinel, .pinned], laidTests := true, laidLooks := .later }
def LexisWordsUptoCardSaid : Prop := Claim7.holds Tryd.pinned (.plain (OpenSpec.upto lexisWordsSpec)) lexisWordsUptoCard

/-- THE SECOND FORM's CARD OF 'semblancelaw1.LexisAs'. -/
def lexisAsUptoCard : Claim7 := { stood := { row := lexisAsUptoRow, standIns := [], harness := (true, "d602bb50b1bf4d936f27d8fed10013c791721d65dd1b1c7ae7016f654e3cca9c"), looks := true }, kinds := [], alts := [], laidByText := true, laidKinds := [.data, .handle, .sentinel, .sentinel, .pinned], laidTests := true, laidLooks := .later }
def LexisAsUptoCardSaid : Prop := Claim7.holds Tryd.pinned (.plain (OpenSpec.upto lexisAsSpec)) lexisAsUptoCard
end Rows
end Go.Proofs.YtinobikikineiaaDoor

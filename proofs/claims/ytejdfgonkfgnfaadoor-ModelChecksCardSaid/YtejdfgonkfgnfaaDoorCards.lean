/-
  DERIVED. GIVEN WITH THE SEED: THE CARDS: each row of YtejdfgonkfgnfaaDoorRows.lean that lists a variable, with what it lists TIED to the program's text (the seventh form; the later family's looks); each row that meets fmt, with fmt's text TOLD by the authors' own Lean function (tested against real Go, not proved from fmt's source: count such statements apart). THE CARD IS WHAT COUNTS. Prove the row's statement (the work); the ties are given (YtejdfgonkfgnfaaDoorTie.lean); close each card by the builder's one call (the guide's Derived/Test/ToyasCard.lean, 'card_holds'). Laid BY PROGRAM, IN A SANDBOX (cutbox-door.mjs). By AI agents, Wed Nov 11 2026. No macro, syntax, notation, axiom, sorry.
-/
import Derived.Test.YtejdfgonkfgnfaaDoorRows
import GoSem.ClaimSeven
namespace Go.Proofs.YtejdfgonkfgnfaaDoor
namespace Rows

/-- THE TIED CARD OF 'boomeranglaw07.ModelSame'. -/
def modelSameCard : Claim7 := { stood := { row := modelSameRow, standIns := [], harness := (true, "eb552fedee5360beb6638d6a2f6faa15031dcf32457f7f5e4343a0c29761fde2"), looks := false }, kinds := [], alts := [], laidByText := true, laidKinds := [.data], laidTests := true, laidLooks := .later }
def ModelSameCardSaid : Prop := Claim7.holds Tryd.pinned (.plain (OpenSpec.ofChange modelSameSpec)) modelSameCard

/-- THE TIED CARD OF 'boomeranglaw07.ModelKeeps'. -/
def modelKeepsCard : Claim7 := { stood := { row := modelKeepsRow, standIns := [], harness := (true, "eb552fedee5360beb6638d6a2f6faa15031dcf32457f7f5e4343a0c29761fde2"), looks := false }, kinds := [], alts := [], laidByText := true, laidKinds := [.data], laidTests := true, laidLooks := .later }
def ModelKeepsCardSaid : Prop := Claim7.holds Tryd.pinned (.plain (OpenSpec.ofChange modelKeepsSpec)) modelKeepsCard

/-- THE TIED CARD OF 'boomeranglaw07.ModelEvents'. -/
def modelEventsCard : Claim7 := { stood := { row := modelEventsRow, standIns := [], harness := (true, "eb552fedee5360beb6638d6a2f6faa15031dcf32457f7f5e4343a0c29761fde2"), looks := false }, kinds := [], alts := [], laidByText := true, laidKinds := [.data], laidTests := true, laidLooks := .later }
def ModelEventsCardSaid : Prop := Claim7.holds Tryd.pinned (.plain (OpenSpec.ofChange modelEventsSpec)) modelEventsCard

/-- THE TIED CARD OF 'boomeranglaw07.ModelChecks'. -/
def modelChecksCard : Claim7 := { stood := { row := modelChecksRow, standIns := [], harness := (true, "eb552fedee5360beb6638d6a2f6faa15031dcf32457f7f5e4343a0c29761fde2"), looks := false }, kinds := [], alts := [], laidByText := true, laidKinds := [.data], laidTests := true, laidLooks := .later }
def ModelChecksCardSaid : Prop := Claim7.holds Tryd.pinned (.plain (OpenSpec.ofChange modelChecksSpec)) modelChecksCard

/-- THE TIED CARD OF 'boomeranglaw07.ModelNil'. -/
def modelNilCard : Claim7 := { stood := { row := modelNilRow, standIns := [], harness := (true, "eb552fedee5360beb6638d6a2f6faa15031dcf32457f7f5e4343a0c29761fde2"), looks := false }, kinds := [], alts := [], laidByText := true, laidKinds := [.data], laidTests := true, laidLooks := .later }
def ModelNilCardSaid : Prop := Claim7.holds Tryd.pinned (.plain (OpenSpec.ofChange modelNilSpec)) modelNilCard

/-- THE SECOND FORM's CARD OF 'boomeranglaw07.ModelSame'. -/
def modelSameUptoCard : Claim7 := { stood := { row := modelSameUptoRow, standIns := [], harness := (true, "eb552fedee5360beb6638d6a2f6faa15031dcf32457f7f5e4343a0c29761fde2"), looks := false }, kinds := [], alts := [], laidByText := true, laidKinds := [.data], laidTests := true, laidLooks := .later }
def ModelSameUptoCardSaid : Prop := Claim7.holds Tryd.pinned (.plain (OpenSpec.upto modelSameSpec)) modelSameUptoCard

/-- THE SECOND FORM's CARD OF 'boomeranglaw07.ModelKeeps'. -/
def modelKeepsUptoCard : Claim7 := { stood := { row := modelKeepsUptoRow, standIns := [], harness := (true, "eb552fedee5360beb6638d6a2f6faa15031dcf32457f7f5e4343a0c29761fde2"), looks := false }, kinds := [], alts := [], laidByText := true, laidKinds := [.data], laidTests := true, laidLooks := .later }
def ModelKeepsUptoCardSaid : Prop := Claim7.holds Tryd.pinned (.plain (OpenSpec.upto modelKeepsSpec)) modelKeepsUptoCard

/-- THE SECOND FORM's CARD OF 'boomeranglaw07.ModelEvents'. -/
def modelEventsUptoCard : Claim7 := { stood := { row := modelEventsUptoRow, standIns := [], harness := (true, "eb552fedee5360beb6638d6a2f6faa15031dcf32457f7f5e4343a0c29761fde2"), looks := false }, kinds := [], alts := [], laidByText := true, laidKinds := [.data], laidTests := true, laidLooks := .later }
def ModelEventsUptoCardSaid : Prop := Claim7.holds Tryd.pinned (.plain (OpenSpec.upto modelEventsSpec)) modelEventsUptoCard

/-- THE SECOND FORM's CARD OF 'boomeranglaw07.ModelChecks'. -/
def modelChecksUptoCard : Claim7 := { stood := { row := modelChecksUptoRow, standIns := [], harness := (true, "eb552fedee5360beb6638d6a2f6faa15031dcf32457f7f5e4343a0c29761fde2"), looks := false }, kinds := [], alts := [], laidByText := true, laidKinds := [.data], laidTests := true, laidLooks := .later }
def ModelChecksUptoCardSaid : Prop := Claim7.holds Tryd.pinned (.plain (OpenSpec.upto modelChecksSpec)) modelChecksUptoCard

/-- THE SECOND FORM's CARD OF 'boomeranglaw07.ModelNil'. -/
def modelNilUptoCard : Claim7 := { stood := { row := modelNilUptoRow, standIns := [], harness := (true, "eb552fedee5360beb6638d6a2f6faa15031dcf32457f7f5e4343a0c29761fde2"), looks := false }, kinds := [], alts := [], laidByText := true, laidKinds := [.data], laidTests := true, laidLooks := .later }
def ModelNilUptoCardSaid : Prop := Claim7.holds Tryd.pinned (.plain (OpenSpec.upto modelNilSpec)) modelNilUptoCard
end Rows
end Go.Proofs.YtejdfgonkfgnfaaDoor

/-
  DERIVED. GIVEN WITH THE SEED: THE CARDS: each row of YtfiiaechippboaaDoorRows.lean that lists a variable, with what it lists TIED to the program's text (the seventh form; the later family's looks); each row that meets fmt, with fmt's text TOLD by the authors' own Lean function (tested against real Go, not proved from fmt's source: count such statements apart). THE CARD IS WHAT COUNTS. Prove the row's statement (the work); the ties are given (YtfiiaechippboaaDoorTie.lean); close each card by the builder's one call (the guide's Derived/Test/ToyasCard.lean, 'card_holds'). Laid BY PROGRAM, IN A SANDBOX (cutbox-door.mjs). By AI agents, Wed Nov 11 2026. No macro, syntax, notation, axiom, sorry.
-/
import Derived.Test.YtfiiaechippboaaDoorRows
import GoSem.ClaimSeven
namespace Go.Proofs.YtfiiaechippboaaDoor
namespace Rows

/-- THE TIED CARD OF 'boomeranglaw08.BatchRuns'. -/
def batchRunsCard : Claim7 := { stood := { row := batchRunsRow, standIns := [], harness := (true, "d3b594775ac8a940a9cd63e0364033ac5343ece8f2c45bc9d507028fc5cad256"), looks := false }, kinds := [], alts := [], laidByText := true, laidKinds := [.data], laidTests := true, laidLooks := .later }
def BatchRunsCardSaid : Prop := Claim7.holds Tryd.pinned (.plain (OpenSpec.ofChange batchRunsSpec)) batchRunsCard

/-- THE TIED CARD OF 'boomeranglaw08.BatchQuiet'. -/
def batchQuietCard : Claim7 := { stood := { row := batchQuietRow, standIns := [], harness := (true, "d3b594775ac8a940a9cd63e0364033ac5343ece8f2c45bc9d507028fc5cad256"), looks := false }, kinds := [], alts := [], laidByText := true, laidKinds := [.data], laidTests := true, laidLooks := .later }
def BatchQuietCardSaid : Prop := Claim7.holds Tryd.pinned (.plain (OpenSpec.ofChange batchQuietSpec)) batchQuietCard

/-- THE TIED CARD OF 'boomeranglaw08.BatchSends'. -/
def batchSendsCard : Claim7 := { stood := { row := batchSendsRow, standIns := [], harness := (true, "d3b594775ac8a940a9cd63e0364033ac5343ece8f2c45bc9d507028fc5cad256"), looks := false }, kinds := [], alts := [], laidByText := true, laidKinds := [.data], laidTests := true, laidLooks := .later }
def BatchSendsCardSaid : Prop := Claim7.holds Tryd.pinned (.plain (OpenSpec.ofChange batchSendsSpec)) batchSendsCard

/-- THE TIED CARD OF 'boomeranglaw08.BatchMany'. -/
def batchManyCard : Claim7 := { stood := { row := batchManyRow, standIns := [], harness := (true, "d3b594775ac8a940a9cd63e0364033ac5343ece8f2c45bc9d507028fc5cad256"), looks := false }, kinds := [], alts := [], laidByText := true, laidKinds := [.data], laidTests := true, laidLooks := .later }
def BatchManyCardSaid : Prop := Claim7.holds Tryd.pinned (.plain (OpenSpec.ofChange batchManySpec)) batchManyCard

/-- THE TIED CARD OF 'boomeranglaw08.BatchParts'. -/
def batchPartsCard : Claim7 := { stood := { row := batchPartsRow, standIns := [], harness := (true, "d3b594775ac8a940a9cd63e0364033ac5343ece8f2c45bc9d507028fc5cad256"), looks := false }, kinds := [], alts := [], laidByText := true, laidKinds := [.data], laidTests := true, laidLooks := .later }
def BatchPartsCardSaid : Prop := Claim7.holds Tryd.pinned (.plain (OpenSpec.ofChange batchPartsSpec)) batchPartsCard

/-- THE TIED CARD OF 'boomeranglaw08.BatchNil'. -/
def batchNilCard : Claim7 := { stood := { row := batchNilRow, standIns := [], harness := (true, "d3b594775ac8a940a9cd63e0364033ac5343ece8f2c45bc9d507028fc5cad256"), looks := false }, kinds := [], alts := [], laidByText := true, laidKinds := [.data], laidTests := true, laidLooks := .later }
def BatchNilCardSaid : Prop := Claim7.holds Tryd.pinned (.plain (OpenSpec.ofChange batchNilSpec)) batchNilCard

/-- THE SECOND FORM's CARD OF 'boomeranglaw08.BatchRuns'. -/
def batchRunsUptoCard : Claim7 := { stood := { row := batchRunsUptoRow, standIns := [], harness := (true, "d3b594775ac8a940a9cd63e0364033ac5343ece8f2c45bc9d507028fc5cad256"), looks := false }, kinds := [], alts := [], laidByText := true, laidKinds := [.data], laidTests := true, laidLooks := .later }
def BatchRunsUptoCardSaid : Prop := Claim7.holds Tryd.pinned (.plain (OpenSpec.upto batchRunsSpec)) batchRunsUptoCard

/-- THE SECOND FORM's CARD OF 'boomeranglaw08.BatchQuiet'. -/
def batchQuietUptoCard : Claim7 := { stood := { row := batchQuietUptoRow, standIns := [], harness := (true, "d3b594775ac8a940a9cd63e0364033ac5343ece8f2c45bc9d507028fc5cad256"), looks := false }, kinds := [], alts := [], laidByText := true, laidKinds := [.data], laidTests := true, laidLooks := .later }
def BatchQuietUptoCardSaid : Prop := Claim7.holds Tryd.pinned (.plain (OpenSpec.upto batchQuietSpec)) batchQuietUptoCard

/-- THE SECOND FORM's CARD OF 'boomeranglaw08.BatchSends'. -/
def batchSendsUptoCard : Claim7 := { stood := { row := batchSendsUptoRow, standIns := [], harness := (true, "d3b594775ac8a940a9cd63e0364033ac5343ece8f2c45bc9d507028fc5cad256"), looks := false }, kinds := [], alts := [], laidByText := true, laidKinds := [.data], laidTests := true, laidLooks := .later }
def BatchSendsUptoCardSaid : Prop := Claim7.holds Tryd.pinned (.plain (OpenSpec.upto batchSendsSpec)) batchSendsUptoCard

/-- THE SECOND FORM's CARD OF 'boomeranglaw08.BatchMany'. -/
def batchManyUptoCard : Claim7 := { stood := { row := batchManyUptoRow, standIns := [], harness := (true, "d3b594775ac8a940a9cd63e0364033ac5343ece8f2c45bc9d507028fc5cad256"), looks := false }, kinds := [], alts := [], laidByText := true, laidKinds := [.data], laidTests := true, laidLooks := .later }
def BatchManyUptoCardSaid : Prop := Claim7.holds Tryd.pinned (.plain (OpenSpec.upto batchManySpec)) batchManyUptoCard

/-- THE SECOND FORM's CARD OF 'boomeranglaw08.BatchParts'. -/
def batchPartsUptoCard : Claim7 := { stood := { row := batchPartsUptoRow, standIns := [], harness := (true, "d3b594775ac8a940a9cd63e0364033ac5343ece8f2c45bc9d507028fc5cad256"), looks := false }, kinds := [], alts := [], laidByText := true, laidKinds := [.data], laidTests := true, laidLooks := .later }
def BatchPartsUptoCardSaid : Prop := Claim7.holds Tryd.pinned (.plain (OpenSpec.upto batchPartsSpec)) batchPartsUptoCard

/-- THE SECOND FORM's CARD OF 'boomeranglaw08.BatchNil'. -/
def batchNilUptoCard : Claim7 := { stood := { row := batchNilUptoRow, standIns := [], harness := (true, "d3b594775ac8a940a9cd63e0364033ac5343ece8f2c45bc9d507028fc5cad256"), looks := false }, kinds := [], alts := [], laidByText := true, laidKinds := [.data], laidTests := true, laidLooks := .later }
def BatchNilUptoCardSaid : Prop := Claim7.holds Tryd.pinned (.plain (OpenSpec.upto batchNilSpec)) batchNilUptoCard
end Rows
end Go.Proofs.YtfiiaechippboaaDoor

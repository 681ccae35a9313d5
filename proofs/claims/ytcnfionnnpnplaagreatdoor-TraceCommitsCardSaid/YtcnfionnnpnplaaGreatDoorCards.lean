/-
  DERIVED. GIVEN WITH THE SEED: THE CARDS: each row of YtcnfionnnpnplaaGreatDoorRows.lean that lists a variable, with what it lists TIED to the program's text (the seventh form; the later family's looks); each row that meets fmt, with fmt's text TOLD by the authors' own Lean function (tested against real Go, not proved from fmt's source: count such statements apart). THE CARD IS WHAT COUNTS. Prove the row's statement (the work); the ties are given (YtcnfionnnpnplaaGreatDoorTie.lean); close each card by the builder's one call (the guide's Derived/Test/ToyasCard.lean, 'card_holds'). Laid BY PROGRAM, IN A SANDBOX (cutbox-door.mjs). By AI agents, Wed Nov 11 2026. No macro, syntax, notation, axiom, sorry.
-/
import Derived.Test.YtcnfionnnpnplaaGreatDoorRows
import GoSem.ClaimSeven
namespace Go.Proofs.YtcnfionnnpnplaaGreatDoor
namespace Rows

/-- THE TIED CARD OF 'boomeranglaw20.TraceParts'. -/
def tracePartsCard : Claim7 := { stood := { row := tracePartsRow, standIns := [], harness := (true, "7fe83b1d6d1ccb1597622994b3a2d49022f23364398c63ec948c52f776608756"), looks := false }, kinds := [], alts := [], laidByText := true, laidKinds := [.data], laidTests := true, laidLooks := .later }
def TracePartsCardSaid : Prop := Claim7.holds Tryz.pinned (.plain (OpenSpec.ofChange tracePartsSpec)) tracePartsCard

/-- THE TIED CARD OF 'boomeranglaw20.TraceCommits'. -/
def traceCommitsCard : Claim7 := { stood := { row := traceCommitsRow, standIns := [], harness := (true, "7fe83b1d6d1ccb1597622994b3a2d49022f23364398c63ec948c52f776608756"), looks := false }, kinds := [], alts := [], laidByText := true, laidKinds := [.data], laidTests := true, laidLooks := .later }
def TraceCommitsCardSaid : Prop := Claim7.holds Tryz.pinned (.plain (OpenSpec.ofChange traceCommitsSpec)) traceCommitsCard

/-- THE TIED CARD OF 'boomeranglaw20.TraceNil'. -/
def traceNilCard : Claim7 := { stood := { row := traceNilRow, standIns := [], harness := (true, "7fe83b1d6d1ccb1597622994b3a2d49022f23364398c63ec948c52f776608756"), looks := false }, kinds := [], alts := [], laidByText := true, laidKinds := [.data], laidTests := true, laidLooks := .later }
def TraceNilCardSaid : Prop := Claim7.holds Tryz.pinned (.plain (OpenSpec.ofChange traceNilSpec)) traceNilCard

/-- THE SECOND FORM's CARD OF 'boomeranglaw20.TraceParts'. -/
def tracePartsUptoCard : Claim7 := { stood := { row := tracePartsUptoRow, standIns := [], harness := (true, "7fe83b1d6d1ccb1597622994b3a2d49022f23364398c63ec948c52f776608756"), looks := false }, kinds := [], alts := [], laidByText := true, laidKinds := [.data], laidTests := true, laidLooks := .later }
def TracePartsUptoCardSaid : Prop := Claim7.holds Tryz.pinned (.plain (OpenSpec.upto tracePartsSpec)) tracePartsUptoCard

/-- THE SECOND FORM's CARD OF 'boomeranglaw20.TraceCommits'. -/
def traceCommitsUptoCard : Claim7 := { stood := { row := traceCommitsUptoRow, standIns := [], harness := (true, "7fe83b1d6d1ccb1597622994b3a2d49022f23364398c63ec948c52f776608756"), looks := false }, kinds := [], alts := [], laidByText := true, laidKinds := [.data], laidTests := true, laidLooks := .later }
def TraceCommitsUptoCardSaid : Prop := Claim7.holds Tryz.pinned (.plain (OpenSpec.upto traceCommitsSpec)) traceCommitsUptoCard

/-- THE SECOND FORM's CARD OF 'boomeranglaw20.TraceNil'. -/
def traceNilUptoCard : Claim7 := { stood := { row := traceNilUptoRow, standIns := [], harness := (true, "7fe83b1d6d1ccb1597622994b3a2d49022f23364398c63ec948c52f776608756"), looks := false }, kinds := [], alts := [], laidByText := true, laidKinds := [.data], laidTests := true, laidLooks := .later }
def TraceNilUptoCardSaid : Prop := Claim7.holds Tryz.pinned (.plain (OpenSpec.upto traceNilSpec)) traceNilUptoCard
end Rows
end Go.Proofs.YtcnfionnnpnplaaGreatDoor

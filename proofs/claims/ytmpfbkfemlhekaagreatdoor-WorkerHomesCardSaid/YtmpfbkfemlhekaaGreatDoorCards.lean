/-
  DERIVED. GIVEN WITH THE SEED: THE CARDS: each row of YtmpfbkfemlhekaaGreatDoorRows.lean that lists a variable, with what it lists TIED to the program's text (the seventh form; the later family's looks); each row that meets fmt, with fmt's text TOLD by the authors' own Lean function (tested against real Go, not proved from fmt's source: count such statements apart). THE CARD IS WHAT COUNTS. Prove the row's statement (the work); the ties are given (YtmpfbkfemlhekaaGreatDoorTie.lean); close each card by the builder's one call (the guide's Derived/Test/ToyasCard.lean, 'card_holds'). Laid BY PROGRAM, IN A SANDBOX (cutbox-door.mjs). By AI agents, Wed Nov 11 2026. No macro, syntax, notation, axiom, sorry.
-/
import Derived.Test.YtmpfbkfemlhekaaGreatDoorRows
import GoSem.ClaimSeven
namespace Go.Proofs.YtmpfbkfemlhekaaGreatDoor
namespace Rows

/-- THE TIED CARD OF 'boomeranglaw18.WorkerHomes'. -/
def workerHomesCard : Claim7 := { stood := { row := workerHomesRow, standIns := [], harness := (true, "f9b1d462e7e1df40895e5ad0c0436a828460b51ffd35d44b0c5ba06b2cc89be4"), looks := false }, kinds := [], alts := [], laidByText := true, laidKinds := [.data], laidTests := true, laidLooks := .later }
def WorkerHomesCardSaid : Prop := Claim7.holds Tryz.pinned (.plain (OpenSpec.ofChange workerHomesSpec)) workerHomesCard

/-- THE TIED CARD OF 'boomeranglaw18.WorkerNil'. -/
def workerNilCard : Claim7 := { stood := { row := workerNilRow, standIns := [], harness := (true, "f9b1d462e7e1df40895e5ad0c0436a828460b51ffd35d44b0c5ba06b2cc89be4"), looks := false }, kinds := [], alts := [], laidByText := true, laidKinds := [.data], laidTests := true, laidLooks := .later }
def WorkerNilCardSaid : Prop := Claim7.holds Tryz.pinned (.plain (OpenSpec.ofChange workerNilSpec)) workerNilCard

/-- THE TIED CARD OF 'boomeranglaw18.WorkerReports'. -/
def workerReportsCard : Claim7 := { stood := { row := workerReportsRow, standIns := [], harness := (true, "f9b1d462e7e1df40895e5ad0c0436a828460b51ffd35d44b0c5ba06b2cc89be4"), looks := false }, kinds := [], alts := [], laidByText := true, laidKinds := [.data], laidTests := true, laidLooks := .later }
def WorkerReportsCardSaid : Prop := Claim7.holds Tryz.pinned (.plain (OpenSpec.ofChange workerReportsSpec)) workerReportsCard

/-- THE SECOND FORM's CARD OF 'boomeranglaw18.WorkerHomes'. -/
def workerHomesUptoCard : Claim7 := { stood := { row := workerHomesUptoRow, standIns := [], harness := (true, "f9b1d462e7e1df40895e5ad0c0436a828460b51ffd35d44b0c5ba06b2cc89be4"), looks := false }, kinds := [], alts := [], laidByText := true, laidKinds := [.data], laidTests := true, laidLooks := .later }
def WorkerHomesUptoCardSaid : Prop := Claim7.holds Tryz.pinned (.plain (OpenSpec.upto workerHomesSpec)) workerHomesUptoCard

/-- THE SECOND FORM's CARD OF 'boomeranglaw18.WorkerNil'. -/
def workerNilUptoCard : Claim7 := { stood := { row := workerNilUptoRow, standIns := [], harness := (true, "f9b1d462e7e1df40895e5ad0c0436a828460b51ffd35d44b0c5ba06b2cc89be4"), looks := false }, kinds := [], alts := [], laidByText := true, laidKinds := [.data], laidTests := true, laidLooks := .later }
def WorkerNilUptoCardSaid : Prop := Claim7.holds Tryz.pinned (.plain (OpenSpec.upto workerNilSpec)) workerNilUptoCard

/-- THE SECOND FORM's CARD OF 'boomeranglaw18.WorkerReports'. -/
def workerReportsUptoCard : Claim7 := { stood := { row := workerReportsUptoRow, standIns := [], harness := (true, "f9b1d462e7e1df40895e5ad0c0436a828460b51ffd35d44b0c5ba06b2cc89be4"), looks := false }, kinds := [], alts := [], laidByText := true, laidKinds := [.data], laidTests := true, laidLooks := .later }
def WorkerReportsUptoCardSaid : Prop := Claim7.holds Tryz.pinned (.plain (OpenSpec.upto workerReportsSpec)) workerReportsUptoCard
end Rows
end Go.Proofs.YtmpfbkfemlhekaaGreatDoor

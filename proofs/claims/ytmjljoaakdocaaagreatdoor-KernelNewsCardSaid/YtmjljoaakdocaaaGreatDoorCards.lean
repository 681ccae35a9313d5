/-
  DERIVED. GIVEN WITH THE SEED: THE CARDS: each row of YtmjljoaakdocaaaGreatDoorRows.lean that lists a variable, with what it lists TIED to the program's text (the seventh form; the later family's looks); each row that meets fmt, with fmt's text TOLD by the authors' own Lean function (tested against real Go, not proved from fmt's source: count such statements apart). THE CARD IS WHAT COUNTS. Prove the row's statement (the work); the ties are given (YtmjljoaakdocaaaGreatDoorTie.lean); close each card by the builder's one call (the guide's Derived/Test/ToyasCard.lean, 'card_holds'). Laid BY PROGRAM, IN A SANDBOX (cutbox-door.mjs). By AI agents, Wed Nov 11 2026. No macro, syntax, notation, axiom, sorry.
-/
import Derived.Test.YtmjljoaakdocaaaGreatDoorRows
import GoSem.ClaimSeven
namespace Go.Proofs.YtmjljoaakdocaaaGreatDoor
namespace Rows

/-- THE TIED CARD OF 'boomeranglaw19.KernelNil'. -/
def kernelNilCard : Claim7 := { stood := { row := kernelNilRow, standIns := [], harness := (true, "d66bf73ebcca11b2d2e54ec881b25a9ff7e1581ad12f0c71b5e4a5cf8550cfff"), looks := true }, kinds := [], alts := [], laidByText := true, laidKinds := [.data], laidTests := true, laidLooks := .later }
def KernelNilCardSaid : Prop := Claim7.holds Tryz.pinned (.plain (OpenSpec.ofChange kernelNilSpec)) kernelNilCard

/-- THE TIED CARD OF 'boomeranglaw19.KernelNews'. -/
def kernelNewsCard : Claim7 := { stood := { row := kernelNewsRow, standIns := [], harness := (true, "d66bf73ebcca11b2d2e54ec881b25a9ff7e1581ad12f0c71b5e4a5cf8550cfff"), looks := true }, kinds := [], alts := [], laidByText := true, laidKinds := [.data], laidTests := true, laidLooks := .later }
def KernelNewsCardSaid : Prop := Claim7.holds Tryz.pinned (.plain (OpenSpec.ofChange kernelNewsSpec)) kernelNewsCard

/-- THE TIED CARD OF 'boomeranglaw21.ScriptNil'. -/
def scriptNilCard : Claim7 := { stood := { row := scriptNilRow, standIns := [], harness := (true, "d66bf73ebcca11b2d2e54ec881b25a9ff7e1581ad12f0c71b5e4a5cf8550cfff"), looks := true }, kinds := [], alts := [], laidByText := true, laidKinds := [.data, .data, .data, .data, .sentinel, .sentinel, .data, .data, .pinned], laidTests := true, laidLooks := .later }
def ScriptNilCardSaid : Prop := Claim7.holds Tryz.pinned (.plain (OpenSpec.ofChange scriptNilSpec)) scriptNilCard

/-- THE SECOND FORM's CARD OF 'boomeranglaw19.KernelNil'. -/
def kernelNilUptoCard : Claim7 := { stood := { row := kernelNilUptoRow, standIns := [], harness := (true, "d66bf73ebcca11b2d2e54ec881b25a9ff7e1581ad12f0c71b5e4a5cf8550cfff"), looks := true }, kinds := [], alts := [], laidByText := true, laidKinds := [.data], laidTests := true, laidLooks := .later }
def KernelNilUptoCardSaid : Prop := Claim7.holds Tryz.pinned (.plain (OpenSpec.upto kernelNilSpec)) kernelNilUptoCard

/-- THE SECOND FORM's CARD OF 'boomeranglaw19.KernelNews'. -/
def kernelNewsUptoCard : Claim7 := { stood := { row := kernelNewsUptoRow, standIns := [], harness := (true, "d66bf73ebcca11b2d2e54ec881b25a9ff7e1581ad12f0c71b5e4a5cf8550cfff"), looks := true }, kinds := [], alts := [], laidByText := true, laidKinds := [.data], laidTests := true, laidLooks := .later }
def KernelNewsUptoCardSaid : Prop := Claim7.holds Tryz.pinned (.plain (OpenSpec.upto kernelNewsSpec)) kernelNewsUptoCard

/-- THE SECOND FORM's CARD OF 'boomeranglaw21.ScriptNil'. -/
def scriptNilUptoCard : Claim7 := { stood := { row := scriptNilUptoRow, standIns := [], harness := (true, "d66bf73ebcca11b2d2e54ec881b25a9ff7e1581ad12f0c71b5e4a5cf8550cfff"), looks := true }, kinds := [], alts := [], laidByText := true, laidKinds := [.data, .data, .data, .data, .sentinel, .sentinel, .data, .data, .pinned], laidTests := true, laidLooks := .later }
def ScriptNilUptoCardSaid : Prop := Claim7.holds Tryz.pinned (.plain (OpenSpec.upto scriptNilSpec)) scriptNilUptoCard
end Rows
end Go.Proofs.YtmjljoaakdocaaaGreatDoor

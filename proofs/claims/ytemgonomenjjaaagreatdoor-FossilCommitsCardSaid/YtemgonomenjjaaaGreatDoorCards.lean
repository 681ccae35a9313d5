/-
  DERIVED. GIVEN WITH THE SEED: THE CARDS: each row of YtemgonomenjjaaaGreatDoorRows.lean that lists a variable, with what it lists TIED to the program's text (the seventh form; the later family's looks); each row that meets fmt, with fmt's text TOLD by the authors' own Lean function (tested against real Go, not proved from fmt's source: count such statements apart). THE CARD IS WHAT COUNTS. Prove the row's statement (the work); the ties are given (YtemgonomenjjaaaGreatDoorTie.lean); close each card by the builder's one call (the guide's Derived/Test/ToyasCard.lean, 'card_holds'). Laid BY PROGRAM, IN A SANDBOX (cutbox-door.mjs). By AI agents, Wed Nov 11 2026. No macro, syntax, notation, axiom, sorry.
-/
import Derived.Test.YtemgonomenjjaaaGreatDoorRows
import GoSem.ClaimSeven
namespace Go.Proofs.YtemgonomenjjaaaGreatDoor
namespace Rows

/-- THE TIED CARD OF 'boomeranglaw16.FossilCommits'. -/
def fossilCommitsCard : Claim7 := { stood := { row := fossilCommitsRow, standIns := [], harness := (true, "1762c206818e1cb366deecbd0b0d7fe08d26835893a9b6e0a4f214caefb25957"), looks := false }, kinds := [], alts := [], laidByText := true, laidKinds := [.data], laidTests := true, laidLooks := .later }
def FossilCommitsCardSaid : Prop := Claim7.holds Tryz.pinned (.plain (OpenSpec.ofChange fossilCommitsSpec)) fossilCommitsCard

/-- THE TIED CARD OF 'boomeranglaw16.FossilSeq'. -/
def fossilSeqCard : Claim7 := { stood := { row := fossilSeqRow, standIns := [], harness := (true, "1762c206818e1cb366deecbd0b0d7fe08d26835893a9b6e0a4f214caefb25957"), looks := false }, kinds := [], alts := [], laidByText := true, laidKinds := [.data], laidTests := true, laidLooks := .later }
def FossilSeqCardSaid : Prop := Claim7.holds Tryz.pinned (.plain (OpenSpec.ofChange fossilSeqSpec)) fossilSeqCard

/-- THE SECOND FORM's CARD OF 'boomeranglaw16.FossilCommits'. -/
def fossilCommitsUptoCard : Claim7 := { stood := { row := fossilCommitsUptoRow, standIns := [], harness := (true, "1762c206818e1cb366deecbd0b0d7fe08d26835893a9b6e0a4f214caefb25957"), looks := false }, kinds := [], alts := [], laidByText := true, laidKinds := [.data], laidTests := true, laidLooks := .later }
def FossilCommitsUptoCardSaid : Prop := Claim7.holds Tryz.pinned (.plain (OpenSpec.upto fossilCommitsSpec)) fossilCommitsUptoCard

/-- THE SECOND FORM's CARD OF 'boomeranglaw16.FossilSeq'. -/
def fossilSeqUptoCard : Claim7 := { stood := { row := fossilSeqUptoRow, standIns := [], harness := (true, "1762c206818e1cb366deecbd0b0d7fe08d26835893a9b6e0a4f214caefb25957"), looks := false }, kinds := [], alts := [], laidByText := true, laidKinds := [.data], laidTests := true, laidLooks := .later }
def FossilSeqUptoCardSaid : Prop := Claim7.holds Tryz.pinned (.plain (OpenSpec.upto fossilSeqSpec)) fossilSeqUptoCard
end Rows
end Go.Proofs.YtemgonomenjjaaaGreatDoor

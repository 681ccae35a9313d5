/-
  DERIVED. GIVEN WITH THE SEED: THE CARDS: each row of YthegonbbimmhhaaGreatDoorRows.lean that lists a variable, with what it lists TIED to the program's text (the seventh form; the later family's looks); each row that meets fmt, with fmt's text TOLD by the authors' own Lean function (tested against real Go, not proved from fmt's source: count such statements apart). THE CARD IS WHAT COUNTS. Prove the row's statement (the work); the ties are given (YthegonbbimmhhaaGreatDoorTie.lean); close each card by the builder's one call (the guide's Derived/Test/ToyasCard.lean, 'card_holds'). Laid BY PROGRAM, IN A SANDBOX (cutbox-door.mjs). By AI agents, Wed Nov 11 2026. No macro, syntax, notation, axiom, sorry.
-/
import Derived.Test.YthegonbbimmhhaaGreatDoorRows
import GoSem.ClaimSeven
namespace Go.Proofs.YthegonbbimmhhaaGreatDoor
namespace Rows

/-- THE TIED CARD OF 'boomeranglaw09.SeqOrder'. -/
def seqOrderCard : Claim7 := { stood := { row := seqOrderRow, standIns := [], harness := (true, "953fab015ebd77ae71878bca6523836ddd8171ff4798690854d450ab9fa14089"), looks := true }, kinds := [], alts := [], laidByText := true, laidKinds := [.data], laidTests := true, laidLooks := .later }
def SeqOrderCardSaid : Prop := Claim7.holds Tryz.pinned (.plain (OpenSpec.ofChange seqOrderSpec)) seqOrderCard

/-- THE TIED CARD OF 'boomeranglaw09.SeqSteps'. -/
def seqStepsCard : Claim7 := { stood := { row := seqStepsRow, standIns := [], harness := (true, "953fab015ebd77ae71878bca6523836ddd8171ff4798690854d450ab9fa14089"), looks := true }, kinds := [], alts := [], laidByText := true, laidKinds := [.data], laidTests := true, laidLooks := .later }
def SeqStepsCardSaid : Prop := Claim7.holds Tryz.pinned (.plain (OpenSpec.ofChange seqStepsSpec)) seqStepsCard

/-- THE TIED CARD OF 'boomeranglaw09.SeqUntil'. -/
def seqUntilCard : Claim7 := { stood := { row := seqUntilRow, standIns := [], harness := (true, "953fab015ebd77ae71878bca6523836ddd8171ff4798690854d450ab9fa14089"), looks := true }, kinds := [], alts := [], laidByText := true, laidKinds := [.data], laidTests := true, laidLooks := .later }
def SeqUntilCardSaid : Prop := Claim7.holds Tryz.pinned (.plain (OpenSpec.ofChange seqUntilSpec)) seqUntilCard

/-- THE TIED CARD OF 'boomeranglaw09.SeqCounts'. -/
def seqCountsCard : Claim7 := { stood := { row := seqCountsRow, standIns := [], harness := (true, "953fab015ebd77ae71878bca6523836ddd8171ff4798690854d450ab9fa14089"), looks := true }, kinds := [], alts := [], laidByText := true, laidKinds := [.data], laidTests := true, laidLooks := .later }
def SeqCountsCardSaid : Prop := Claim7.holds Tryz.pinned (.plain (OpenSpec.ofChange seqCountsSpec)) seqCountsCard

/-- THE TIED CARD OF 'boomeranglaw09.SeqNil'. -/
def seqNilCard : Claim7 := { stood := { row := seqNilRow, standIns := [], harness := (true, "953fab015ebd77ae71878bca6523836ddd8171ff4798690854d450ab9fa14089"), looks := true }, kinds := [], alts := [], laidByText := true, laidKinds := [.data], laidTests := true, laidLooks := .later }
def SeqNilCardSaid : Prop := Claim7.holds Tryz.pinned (.plain (OpenSpec.ofChange seqNilSpec)) seqNilCard

/-- THE TIED CARD OF 'boomeranglaw09.SeqParts'. -/
def seqPartsCard : Claim7 := { stood := { row := seqPartsRow, standIns := [], harness := (true, "953fab015ebd77ae71878bca6523836ddd8171ff4798690854d450ab9fa14089"), looks := true }, kinds := [], alts := [], laidByText := true, laidKinds := [.data], laidTests := true, laidLooks := .later }
def SeqPartsCardSaid : Prop := Claim7.holds Tryz.pinned (.plain (OpenSpec.ofChange seqPartsSpec)) seqPartsCard

/-- THE SECOND FORM's CARD OF 'boomeranglaw09.SeqOrder'. -/
def seqOrderUptoCard : Claim7 := { stood := { row := seqOrderUptoRow, standIns := [], harness := (true, "953fab015ebd77ae71878bca6523836ddd8171ff4798690854d450ab9fa14089"), looks := true }, kinds := [], alts := [], laidByText := true, laidKinds := [.data], laidTests := true, laidLooks := .later }
def SeqOrderUptoCardSaid : Prop := Claim7.holds Tryz.pinned (.plain (OpenSpec.upto seqOrderSpec)) seqOrderUptoCard

/-- THE SECOND FORM's CARD OF 'boomeranglaw09.SeqSteps'. -/
def seqStepsUptoCard : Claim7 := { stood := { row := seqStepsUptoRow, standIns := [], harness := (true, "953fab015ebd77ae71878bca6523836ddd8171ff4798690854d450ab9fa14089"), looks := true }, kinds := [], alts := [], laidByText := true, laidKinds := [.data], laidTests := true, laidLooks := .later }
def SeqStepsUptoCardSaid : Prop := Claim7.holds Tryz.pinned (.plain (OpenSpec.upto seqStepsSpec)) seqStepsUptoCard

/-- THE SECOND FORM's CARD OF 'boomeranglaw09.SeqUntil'. -/
def seqUntilUptoCard : Claim7 := { stood := { row := seqUntilUptoRow, standIns := [], harness := (true, "953fab015ebd77ae71878bca6523836ddd8171ff4798690854d450ab9fa14089"), looks := true }, kinds := [], alts := [], laidByText := true, laidKinds := [.data], laidTests := true, laidLooks := .later }
def SeqUntilUptoCardSaid : Prop := Claim7.holds Tryz.pinned (.plain (OpenSpec.upto seqUntilSpec)) seqUntilUptoCard

/-- THE SECOND FORM's CARD OF 'boomeranglaw09.SeqCounts'. -/
def seqCountsUptoCard : Claim7 := { stood := { row := seqCountsUptoRow, standIns := [], harness := (true, "953fab015ebd77ae71878bca6523836ddd8171ff4798690854d450ab9fa14089"), looks := true }, kinds := [], alts := [], laidByText := true, laidKinds := [.data], laidTests := true, laidLooks := .later }
def SeqCountsUptoCardSaid : Prop := Claim7.holds Tryz.pinned (.plain (OpenSpec.upto seqCountsSpec)) seqCountsUptoCard

/-- THE SECOND FORM's CARD OF 'boomeranglaw09.SeqNil'. -/
def seqNilUptoCard : Claim7 := { stood := { row := seqNilUptoRow, standIns := [], harness := (true, "953fab015ebd77ae71878bca6523836ddd8171ff4798690854d450ab9fa14089"), looks := true }, kinds := [], alts := [], laidByText := true, laidKinds := [.data], laidTests := true, laidLooks := .later }
def SeqNilUptoCardSaid : Prop := Claim7.holds Tryz.pinned (.plain (OpenSpec.upto seqNilSpec)) seqNilUptoCard

/-- THE SECOND FORM's CARD OF 'boomeranglaw09.SeqParts'. -/
def seqPartsUptoCard : Claim7 := { stood := { row := seqPartsUptoRow, standIns := [], harness := (true, "953fab015ebd77ae71878bca6523836ddd8171ff4798690854d450ab9fa14089"), looks := true }, kinds := [], alts := [], laidByText := true, laidKinds := [.data], laidTests := true, laidLooks := .later }
def SeqPartsUptoCardSaid : Prop := Claim7.holds Tryz.pinned (.plain (OpenSpec.upto seqPartsSpec)) seqPartsUptoCard
end Rows
end Go.Proofs.YthegonbbimmhhaaGreatDoor

/-
  DERIVED. GIVEN WITH THE SEED: THE CARDS: each row of YthegonbbimmhhaaDoorRows.lean that lists a variable, with what it lists TIED to the program's text (the seventh form; the later family's looks); each row that meets fmt, with fmt's text TOLD by the authors' own Lean function (tested against real Go, not proved from fmt's source: count such statements apart). THE CARD IS WHAT COUNTS. Prove the row's statement (the work); the ties are given (YthegonbbimmhhaaDoorTie.lean); close each card by the builder's one call (the guide's Derived/Test/ToyasCard.lean, 'card_holds'). Laid BY PROGRAM, IN A SANDBOX (cutbox-door.mjs). By AI agents, Wed Nov 11 2026. No macro, syntax, notation, axiom, sorry.
-/
import Derived.Test.YthegonbbimmhhaaDoorRows
import GoSem.ClaimSeven
namespace Go.Proofs.YthegonbbimmhhaaDoor
namespace Rows

/-- THE TIED CARD OF 'boomeranglaw09.SeqBatches'. -/
def seqBatchesCard : Claim7 := { stood := { row := seqBatchesRow, standIns := [], harness := (true, "f3fb0c6276ce8794e6f7ff464293bfae9019c81339d3a18064196a672659fb1a"), looks := false }, kinds := [], alts := [], laidByText := true, laidKinds := [.data], laidTests := true, laidLooks := .later }
def SeqBatchesCardSaid : Prop := Claim7.holds Tryd.pinned (.plain (OpenSpec.ofChange seqBatchesSpec)) seqBatchesCard

/-- THE TIED CARD OF 'boomeranglaw09.SeqSame'. -/
def seqSameCard : Claim7 := { stood := { row := seqSameRow, standIns := [], harness := (true, "f3fb0c6276ce8794e6f7ff464293bfae9019c81339d3a18064196a672659fb1a"), looks := false }, kinds := [], alts := [], laidByText := true, laidKinds := [.data], laidTests := true, laidLooks := .later }
def SeqSameCardSaid : Prop := Claim7.holds Tryd.pinned (.plain (OpenSpec.ofChange seqSameSpec)) seqSameCard

/-- THE SECOND FORM's CARD OF 'boomeranglaw09.SeqBatches'. -/
def seqBatchesUptoCard : Claim7 := { stood := { row := seqBatchesUptoRow, standIns := [], harness := (true, "f3fb0c6276ce8794e6f7ff464293bfae9019c81339d3a18064196a672659fb1a"), looks := false }, kinds := [], alts := [], laidByText := true, laidKinds := [.data], laidTests := true, laidLooks := .later }
def SeqBatchesUptoCardSaid : Prop := Claim7.holds Tryd.pinned (.plain (OpenSpec.upto seqBatchesSpec)) seqBatchesUptoCard

/-- THE SECOND FORM's CARD OF 'boomeranglaw09.SeqSame'. -/
def seqSameUptoCard : Claim7 := { stood := { row := seqSameUptoRow, standIns := [], harness := (true, "f3fb0c6276ce8794e6f7ff464293bfae9019c81339d3a18064196a672659fb1a"), looks := false }, kinds := [], alts := [], laidByText := true, laidKinds := [.data], laidTests := true, laidLooks := .later }
def SeqSameUptoCardSaid : Prop := Claim7.holds Tryd.pinned (.plain (OpenSpec.upto seqSameSpec)) seqSameUptoCard
end Rows
end Go.Proofs.YthegonbbimmhhaaDoor

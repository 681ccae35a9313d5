/-
  DERIVED. GIVEN WITH THE SEED: THE CARDS: each row of YtjmecncebdbhdaaDoorRows.lean that lists a variable, with what it lists TIED to the program's text (the seventh form; the later family's looks); each row that meets fmt, with fmt's text TOLD by the authors' own Lean function (tested against real Go, not proved from fmt's source: count such statements apart). THE CARD IS WHAT COUNTS. Prove the row's statement (the work); the ties are given (YtjmecncebdbhdaaDoorTie.lean); close each card by the builder's one call (the guide's Derived/Test/ToyasCard.lean, 'card_holds'). Laid BY PROGRAM, IN A SANDBOX (cutbox-door.mjs). By AI agents, Wed Nov 11 2026. No macro, syntax, notation, axiom, sorry.
-/
import Derived.Test.YtjmecncebdbhdaaDoorRows
import GoSem.ClaimSeven
namespace Go.Proofs.YtjmecncebdbhdaaDoor
namespace Rows

/-- THE TIED CARD OF 'boomeranglaw16.FossilRules'. -/
def fossilRulesCard : Claim7 := { stood := { row := fossilRulesRow, standIns := [], harness := (true, "3579d36b01d56da3759c007acab297ced62117d2cb1fb8ae2cd55714e5a79f9f"), looks := false }, kinds := [], alts := [], laidByText := true, laidKinds := [.data], laidTests := true, laidLooks := .later }
def FossilRulesCardSaid : Prop := Claim7.holds Tryd.pinned (.plain (OpenSpec.ofChange fossilRulesSpec)) fossilRulesCard

/-- THE TIED CARD OF 'boomeranglaw16.FossilParts'. -/
def fossilPartsCard : Claim7 := { stood := { row := fossilPartsRow, standIns := [], harness := (true, "3579d36b01d56da3759c007acab297ced62117d2cb1fb8ae2cd55714e5a79f9f"), looks := false }, kinds := [], alts := [], laidByText := true, laidKinds := [.data], laidTests := true, laidLooks := .later }
def FossilPartsCardSaid : Prop := Claim7.holds Tryd.pinned (.plain (OpenSpec.ofChange fossilPartsSpec)) fossilPartsCard

/-- THE SECOND FORM's CARD OF 'boomeranglaw16.FossilRules'. -/
def fossilRulesUptoCard : Claim7 := { stood := { row := fossilRulesUptoRow, standIns := [], harness := (true, "3579d36b01d56da3759c007acab297ced62117d2cb1fb8ae2cd55714e5a79f9f"), looks := false }, kinds := [], alts := [], laidByText := true, laidKinds := [.data], laidTests := true, laidLooks := .later }
def FossilRulesUptoCardSaid : Prop := Claim7.holds Tryd.pinned (.plain (OpenSpec.upto fossilRulesSpec)) fossilRulesUptoCard

/-- THE SECOND FORM's CARD OF 'boomeranglaw16.FossilParts'. -/
def fossilPartsUptoCard : Claim7 := { stood := { row := fossilPartsUptoRow, standIns := [], harness := (true, "3579d36b01d56da3759c007acab297ced62117d2cb1fb8ae2cd55714e5a79f9f"), looks := false }, kinds := [], alts := [], laidByText := true, laidKinds := [.data], laidTests := true, laidLooks := .later }
def FossilPartsUptoCardSaid : Prop := Claim7.holds Tryd.pinned (.plain (OpenSpec.upto fossilPartsSpec)) fossilPartsUptoCard
end Rows
end Go.Proofs.YtjmecncebdbhdaaDoor

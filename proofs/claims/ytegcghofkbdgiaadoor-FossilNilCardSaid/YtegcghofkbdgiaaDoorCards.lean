/-
  DERIVED. GIVEN WITH THE SEED: THE CARDS: each row of YtegcghofkbdgiaaDoorRows.lean that lists a variable, with what it lists TIED to the program's text (the seventh form; the later family's looks); each row that meets fmt, with fmt's text TOLD by the authors' own Lean function (tested against real Go, not proved from fmt's source: count such statements apart). THE CARD IS WHAT COUNTS. Prove the row's statement (the work); the ties are given (YtegcghofkbdgiaaDoorTie.lean); close each card by the builder's one call (the guide's Derived/Test/ToyasCard.lean, 'card_holds'). Laid BY PROGRAM, IN A SANDBOX (cutbox-door.mjs). By AI agents, Wed Nov 11 2026. No macro, syntax, notation, axiom, sorry.
-/
import Derived.Test.YtegcghofkbdgiaaDoorRows
import GoSem.ClaimSeven
namespace Go.Proofs.YtegcghofkbdgiaaDoor
namespace Rows

/-- THE TIED CARD OF 'boomeranglaw16.FossilRules'. -/
def fossilRulesCard : Claim7 := { stood := { row := fossilRulesRow, standIns := [], harness := (true, "181ba7f4cfef3a62954d6f3c451c6777532c3224527d2b2744aa725420318df0"), looks := false }, kinds := [], alts := [], laidByText := true, laidKinds := [.data], laidTests := true, laidLooks := .later }
def FossilRulesCardSaid : Prop := Claim7.holds Tryd.pinned (.plain (OpenSpec.ofChange fossilRulesSpec)) fossilRulesCard

/-- THE TIED CARD OF 'boomeranglaw16.FossilParts'. -/
def fossilPartsCard : Claim7 := { stood := { row := fossilPartsRow, standIns := [], harness := (true, "181ba7f4cfef3a62954d6f3c451c6777532c3224527d2b2744aa725420318df0"), looks := false }, kinds := [], alts := [], laidByText := true, laidKinds := [.data], laidTests := true, laidLooks := .later }
def FossilPartsCardSaid : Prop := Claim7.holds Tryd.pinned (.plain (OpenSpec.ofChange fossilPartsSpec)) fossilPartsCard

/-- THE TIED CARD OF 'boomeranglaw16.FossilNil'. -/
def fossilNilCard : Claim7 := { stood := { row := fossilNilRow, standIns := [], harness := (true, "181ba7f4cfef3a62954d6f3c451c6777532c3224527d2b2744aa725420318df0"), looks := false }, kinds := [], alts := [], laidByText := true, laidKinds := [.data], laidTests := true, laidLooks := .later }
def FossilNilCardSaid : Prop := Claim7.holds Tryd.pinned (.plain (OpenSpec.ofChange fossilNilSpec)) fossilNilCard

/-- THE SECOND FORM's CARD OF 'boomeranglaw16.FossilRules'. -/
def fossilRulesUptoCard : Claim7 := { stood := { row := fossilRulesUptoRow, standIns := [], harness := (true, "181ba7f4cfef3a62954d6f3c451c6777532c3224527d2b2744aa725420318df0"), looks := false }, kinds := [], alts := [], laidByText := true, laidKinds := [.data], laidTests := true, laidLooks := .later }
def FossilRulesUptoCardSaid : Prop := Claim7.holds Tryd.pinned (.plain (OpenSpec.upto fossilRulesSpec)) fossilRulesUptoCard

/-- THE SECOND FORM's CARD OF 'boomeranglaw16.FossilParts'. -/
def fossilPartsUptoCard : Claim7 := { stood := { row := fossilPartsUptoRow, standIns := [], harness := (true, "181ba7f4cfef3a62954d6f3c451c6777532c3224527d2b2744aa725420318df0"), looks := false }, kinds := [], alts := [], laidByText := true, laidKinds := [.data], laidTests := true, laidLooks := .later }
def FossilPartsUptoCardSaid : Prop := Claim7.holds Tryd.pinned (.plain (OpenSpec.upto fossilPartsSpec)) fossilPartsUptoCard

/-- THE SECOND FORM's CARD OF 'boomeranglaw16.FossilNil'. -/
def fossilNilUptoCard : Claim7 := { stood := { row := fossilNilUptoRow, standIns := [], harness := (true, "181ba7f4cfef3a62954d6f3c451c6777532c3224527d2b2744aa725420318df0"), looks := false }, kinds := [], alts := [], laidByText := true, laidKinds := [.data], laidTests := true, laidLooks := .later }
def FossilNilUptoCardSaid : Prop := Claim7.holds Tryd.pinned (.plain (OpenSpec.upto fossilNilSpec)) fossilNilUptoCard
end Rows
end Go.Proofs.YtegcghofkbdgiaaDoor

/-
  No cell of these rows narrows 'for every input' (looked for: loops, veiled, ifaces, maps, wideKeys, modest, calm, conditions, laid).
  DERIVED. THE GIVEN ROWS OF THIS SEAT. 8 by the template 'for every input the law returns true; each argument reads behind the call as it read before'; 0 by the template 'total and deterministic' (their statements: YtejdfgonkfgnfaaTotals.lean).
  GIVEN WITH THE SEED: the statements are not yours to turn. If you find one false, say at which input.
  Laid BY PROGRAM, IN A SANDBOX (cutbox-rows.mjs): the forced cells as the released guide's own fill.sh prints them over the translation 00c49ee01c7f84ac… (all of the seat's roots in one cut). By AI agents, Wed Nov 11 2026. No macro, syntax, notation, axiom, sorry.
-/
import Derived.Test.YtejdfgonkfgnfaaChecked
import GoSem.Claim
import GoSem.ClaimJoined
import GoSem.ClaimMapViews
import Derived.JoinedTies
import Derived.KernelRfl
namespace Go.Proofs.Ytejdfgonkfgnfaa
/- THE CELL 'sum', in the pinned program and in every row, IS THE sha256 OF THE DUMP (.gsa) THAT YtejdfgonkfgnfaaProg.lean LOADS. Nothing in Lean hashes anything: it is a label: what it is worth is what the hold of that sum in a sandbox is worth. -/
noncomputable def Try.pinned : Pinned := { name := "ytejdfgonkfgnfaa", sum := "00c49ee01c7f84ac9822436ccac486bcd0550423f54d96404ca420b565179180", checked := Try.checked }
namespace Rows
def none {H : Type} : Left H := { results := [], args := [] }

/-- 'boomeranglaw02.KeysOrder': WHATEVER THE INPUT: true; the input reads as it did. -/
def keysOrderSpec : ChangeSpec := { name := "keysOrder", fn := fun _ => fun
  | [d1, d2, d3] => { results := [.lit (.bool true)], args := [d1, d2, d3] }
  | _ => none }
def keysOrderRow : OpenClaim := { program := "ytejdfgonkfgnfaa", sum := "00c49ee01c7f84ac9822436ccac486bcd0550423f54d96404ca420b565179180", func := "boomerang/boomeranglaw02.KeysOrder", spec := "keysOrder", unfollowed := true, recurses := true, apart := false }
def KeysOrderSaid : Prop := keysOrderRow.holds Try.pinned (OpenSpec.ofChange keysOrderSpec)

/-- ITS FALSE NEIGHBOUR: 'it returns false'. Refute it at one input. -/
def keysOrderWrong : ChangeSpec := { name := "keysOrder", fn := fun _ => fun
  | [d1, d2, d3] => { results := [.lit (.bool false)], args := [d1, d2, d3] }
  | _ => none }
def KeysOrderWrongFalsely : Prop := keysOrderRow.holds Try.pinned (OpenSpec.ofChange keysOrderWrong)

/-- 'boomeranglaw02.KeysLeft': WHATEVER THE INPUT: true; the input reads as it did. -/
def keysLeftSpec : ChangeSpec := { name := "keysLeft", fn := fun _ => fun
  | [d1, d2, d3] => { results := [.lit (.bool true)], args := [d1, d2, d3] }
  | _ => none }
def keysLeftRow : OpenClaim := { program := "ytejdfgonkfgnfaa", sum := "00c49ee01c7f84ac9822436ccac486bcd0550423f54d96404ca420b565179180", func := "boomerang/boomeranglaw02.KeysLeft", spec := "keysLeft", unfollowed := true, recurses := true, apart := false }
def KeysLeftSaid : Prop := keysLeftRow.holds Try.pinned (OpenSpec.ofChange keysLeftSpec)

/-- ITS FALSE NEIGHBOUR: 'it returns false'. Refute it at one input. -/
def keysLeftWrong : ChangeSpec := { name := "keysLeft", fn := fun _ => fun
  | [d1, d2, d3] => { results := [.lit (.bool false)], args := [d1, d2, d3] }
  | _ => none }
def KeysLeftWrongFalsely : Prop := keysLeftRow.holds Try.pinned (OpenSpec.ofChange keysLeftWrong)

/-- 'boomeranglaw02.KeysSettle': WHATEVER THE INPUT: true; the input reads as it did. -/
def keysSettleSpec : ChangeSpec := { name := "keysSettle", fn := fun _ => fun
  | [d] => { results := [.lit (.bool true)], args := [d] }
  | _ => none }
def keysSettleRow : OpenClaim := { program := "ytejdfgonkfgnfaa", sum := "00c49ee01c7f84ac9822436ccac486bcd0550423f54d96404ca420b565179180", func := "boomerang/boomeranglaw02.KeysSettle", spec := "keysSettle", unfollowed := true, recurses := true, apart := false }
def KeysSettleSaid : Prop := keysSettleRow.holds Try.pinned (OpenSpec.ofChange keysSettleSpec)

/-- ITS FALSE NEIGHBOUR: 'it returns false'. Refute it at one input. -/
def keysSettleWrong : ChangeSpec := { name := "keysSettle", fn := fun _ => fun
  | [d] => { results := [.lit (.bool false)], args := [d] }
  | _ => none }
def KeysSettleWrongFalsely : Prop := keysSettleRow.holds Try.pinned (OpenSpec.ofChange keysSettleWrong)

/-- 'boomeranglaw02.KeysLeast': WHATEVER THE INPUT: true; the input reads as it did. -/
def keysLeastSpec : ChangeSpec := { name := "keysLeast", fn := fun _ => fun
  | [d1, d2] => { results := [.lit (.bool true)], args := [d1, d2] }
  | _ => none }
def keysLeastRow : OpenClaim := { program := "ytejdfgonkfgnfaa", sum := "00c49ee01c7f84ac9822436ccac486bcd0550423f54d96404ca420b565179180", func := "boomerang/boomeranglaw02.KeysLeast", spec := "keysLeast", unfollowed := true, recurses := true, apart := false }
def KeysLeastSaid : Prop := keysLeastRow.holds Try.pinned (OpenSpec.ofChange keysLeastSpec)

/-- ITS FALSE NEIGHBOUR: 'it returns false'. Refute it at one input. -/
def keysLeastWrong : ChangeSpec := { name := "keysLeast", fn := fun _ => fun
  | [d1, d2] => { results := [.lit (.bool false)], args := [d1, d2] }
  | _ => none }
def KeysLeastWrongFalsely : Prop := keysLeastRow.holds Try.pinned (OpenSpec.ofChange keysLeastWrong)

/-- 'boomeranglaw02.KeysCheck': WHATEVER THE INPUT: true; the input reads as it did. -/
def keysCheckSpec : ChangeSpec := { name := "keysCheck", fn := fun _ => fun
  | [d1, d2] => { results := [.lit (.bool true)], args := [d1, d2] }
  | _ => none }
def keysCheckRow : OpenClaim := { program := "ytejdfgonkfgnfaa", sum := "00c49ee01c7f84ac9822436ccac486bcd0550423f54d96404ca420b565179180", func := "boomerang/boomeranglaw02.KeysCheck", spec := "keysCheck", unfollowed := true, recurses := true, apart := false }
def KeysCheckSaid : Prop := keysCheckRow.holds Try.pinned (OpenSpec.ofChange keysCheckSpec)

/-- ITS FALSE NEIGHBOUR: 'it returns false'. Refute it at one input. -/
def keysCheckWrong : ChangeSpec := { name := "keysCheck", fn := fun _ => fun
  | [d1, d2] => { results := [.lit (.bool false)], args := [d1, d2] }
  | _ => none }
def KeysCheckWrongFalsely : Prop := keysCheckRow.holds Try.pinned (OpenSpec.ofChange keysCheckWrong)

/-- 'boomeranglaw02.KeysSame': WHATEVER THE INPUT: true; the input reads as it did. -/
def keysSameSpec : ChangeSpec := { name := "keysSame", fn := fun _ => fun
  | [d] => { results := [.lit (.bool true)], args := [d] }
  | _ => none }
def keysSameRow : OpenClaim := { program := "ytejdfgonkfgnfaa", sum := "00c49ee01c7f84ac9822436ccac486bcd0550423f54d96404ca420b565179180", func := "boomerang/boomeranglaw02.KeysSame", spec := "keysSame", unfollowed := true, recurses := true, apart := false }
def KeysSameSaid : Prop := keysSameRow.holds Try.pinned (OpenSpec.ofChange keysSameSpec)

/-- ITS FALSE NEIGHBOUR: 'it returns false'. Refute it at one input. -/
def keysSameWrong : ChangeSpec := { name := "keysSame", fn := fun _ => fun
  | [d] => { results := [.lit (.bool false)], args := [d] }
  | _ => none }
def KeysSameWrongFalsely : Prop := keysSameRow.holds Try.pinned (OpenSpec.ofChange keysSameWrong)

/-- 'boomeranglaw02.KeysSort': WHATEVER THE INPUT: true; the input reads as it did. -/
def keysSortSpec : ChangeSpec := { name := "keysSort", fn := fun _ => fun
  | [d] => { results := [.lit (.bool true)], args := [d] }
  | _ => none }
def keysSortRow : OpenClaim := { program := "ytejdfgonkfgnfaa", sum := "00c49ee01c7f84ac9822436ccac486bcd0550423f54d96404ca420b565179180", func := "boomerang/boomeranglaw02.KeysSort", spec := "keysSort", unfollowed := true, recurses := true, apart := false }
def KeysSortSaid : Prop := keysSortRow.holds Try.pinned (OpenSpec.ofChange keysSortSpec)

/-- ITS FALSE NEIGHBOUR: 'it returns false'. Refute it at one input. -/
def keysSortWrong : ChangeSpec := { name := "keysSort", fn := fun _ => fun
  | [d] => { results := [.lit (.bool false)], args := [d] }
  | _ => none }
def KeysSortWrongFalsely : Prop := keysSortRow.holds Try.pinned (OpenSpec.ofChange keysSortWrong)

/-- 'boomeranglaw02.KeysBatches': WHATEVER THE INPUT: true; the input reads as it did. -/
def keysBatchesSpec : ChangeSpec := { name := "keysBatches", fn := fun _ => fun
  | [d1, d2] => { results := [.lit (.bool true)], args := [d1, d2] }
  | _ => none }
def keysBatchesRow : OpenClaim := { program := "ytejdfgonkfgnfaa", sum := "00c49ee01c7f84ac9822436ccac486bcd0550423f54d96404ca420b565179180", func := "boomerang/boomeranglaw02.KeysBatches", spec := "keysBatches", unfollowed := true, recurses := true, apart := false }
def KeysBatchesSaid : Prop := keysBatchesRow.holds Try.pinned (OpenSpec.ofChange keysBatchesSpec)

/-- ITS FALSE NEIGHBOUR: 'it returns false'. Refute it at one input. -/
def keysBatchesWrong : ChangeSpec := { name := "keysBatches", fn := fun _ => fun
  | [d1, d2] => { results := [.lit (.bool false)], args := [d1, d2] }
  | _ => none }
def KeysBatchesWrongFalsely : Prop := keysBatchesRow.holds Try.pinned (OpenSpec.ofChange keysBatchesWrong)

/- THE SECOND FORM. 'bulk': how many values and letters a reading holds, each counted each time it is reached (what is shared counts as often as it is met; a slice's spare places count too). A statement '..UptoSaid' is the law's where the arguments, and the package variables that the reading takes, are together of bulk at most 1048576: NARROWER than '..Said'. Prove '..Said' where nothing that the law and all that it calls make is longer than what came in: it says more and counts as full. Else prove '..UptoSaid'. A law counts once. -/
mutual
def uptoBulk {H : Type} : DataW H → Nat
  | .lit (.string bytes) => bytes.length + 1
  | .lit _ => 1
  | .nil => 1
  | .ptr d => uptoBulk d + 1
  | .slice elems spare => uptoBulkAll elems + uptoBulkAll spare + 1
  | .agg parts => uptoBulkAll parts + 1
  | .iface _ d => uptoBulk d + 1
  | .map entries => uptoBulkEntries entries + 1
  | .held _ => 1
def uptoBulkAll {H : Type} : List (DataW H) → Nat
  | [] => 0
  | d :: r => uptoBulk d + uptoBulkAll r
def uptoBulkEntries {H : Type} : List (Lit × DataW H) → Nat
  | [] => 0
  | x :: r => uptoBulkEntry x + uptoBulkEntries r
def uptoBulkEntry {H : Type} : Lit × DataW H → Nat
  | (.string bytes, d) => bytes.length + uptoBulk d + 1
  | (_, d) => uptoBulk d + 1
 end
def uptoSmall : (H : Type) → List (DataW H) → Bool := fun _ ds => decide (uptoBulkAll ds ≤ 1048576)
def OpenSpec.upto (s : _root_.Go.ChangeSpec) : _root_.Go.OpenSpec := { _root_.Go.OpenSpec.ofChange s with cond := some uptoSmall }

/-- 'boomeranglaw02.KeysOrder', WHERE WHAT IT READS IS OF BULK AT MOST 1048576: true; the input reads as it did. -/
def keysOrderUptoRow : OpenClaim := { program := "ytejdfgonkfgnfaa", sum := "00c49ee01c7f84ac9822436ccac486bcd0550423f54d96404ca420b565179180", func := "boomerang/boomeranglaw02.KeysOrder", spec := "keysOrder", unfollowed := true, recurses := true, apart := false, narrowed := true }
def KeysOrderUptoSaid : Prop := keysOrderUptoRow.holds Try.pinned (OpenSpec.upto keysOrderSpec)

/-- 'boomeranglaw02.KeysLeft', WHERE WHAT IT READS IS OF BULK AT MOST 1048576: true; the input reads as it did. -/
def keysLeftUptoRow : OpenClaim := { program := "ytejdfgonkfgnfaa", sum := "00c49ee01c7f84ac9822436ccac486bcd0550423f54d96404ca420b565179180", func := "boomerang/boomeranglaw02.KeysLeft", spec := "keysLeft", unfollowed := true, recurses := true, apart := false, narrowed := true }
def KeysLeftUptoSaid : Prop := keysLeftUptoRow.holds Try.pinned (OpenSpec.upto keysLeftSpec)

/-- 'boomeranglaw02.KeysSettle', WHERE WHAT IT READS IS OF BULK AT MOST 1048576: true; the input reads as it did. -/
def keysSettleUptoRow : OpenClaim := { program := "ytejdfgonkfgnfaa", sum := "00c49ee01c7f84ac9822436ccac486bcd0550423f54d96404ca420b565179180", func := "boomerang/boomeranglaw02.KeysSettle", spec := "keysSettle", unfollowed := true, recurses := true, apart := false, narrowed := true }
def KeysSettleUptoSaid : Prop := keysSettleUptoRow.holds Try.pinned (OpenSpec.upto keysSettleSpec)

/-- 'boomeranglaw02.KeysLeast', WHERE WHAT IT READS IS OF BULK AT MOST 1048576: true; the input reads as it did. -/
def keysLeastUptoRow : OpenClaim := { program := "ytejdfgonkfgnfaa", sum := "00c49ee01c7f84ac9822436ccac486bcd0550423f54d96404ca420b565179180", func := "boomerang/boomeranglaw02.KeysLeast", spec := "keysLeast", unfollowed := true, recurses := true, apart := false, narrowed := true }
def KeysLeastUptoSaid : Prop := keysLeastUptoRow.holds Try.pinned (OpenSpec.upto keysLeastSpec)

/-- 'boomeranglaw02.KeysCheck', WHERE WHAT IT READS IS OF BULK AT MOST 1048576: true; the input reads as it did. -/
def keysCheckUptoRow : OpenClaim := { program := "ytejdfgonkfgnfaa", sum := "00c49ee01c7f84ac9822436ccac486bcd0550423f54d96404ca420b565179180", func := "boomerang/boomeranglaw02.KeysCheck", spec := "keysCheck", unfollowed := true, recurses := true, apart := false, narrowed := true }
def KeysCheckUptoSaid : Prop := keysCheckUptoRow.holds Try.pinned (OpenSpec.upto keysCheckSpec)

/-- 'boomeranglaw02.KeysSame', WHERE WHAT IT READS IS OF BULK AT MOST 1048576: true; the input reads as it did. -/
def keysSameUptoRow : OpenClaim := { program := "ytejdfgonkfgnfaa", sum := "00c49ee01c7f84ac9822436ccac486bcd0550423f54d96404ca420b565179180", func := "boomerang/boomeranglaw02.KeysSame", spec := "keysSame", unfollowed := true, recurses := true, apart := false, narrowed := true }
def KeysSameUptoSaid : Prop := keysSameUptoRow.holds Try.pinned (OpenSpec.upto keysSameSpec)

/-- 'boomeranglaw02.KeysSort', WHERE WHAT IT READS IS OF BULK AT MOST 1048576: true; the input reads as it did. -/
def keysSortUptoRow : OpenClaim := { program := "ytejdfgonkfgnfaa", sum := "00c49ee01c7f84ac9822436ccac486bcd0550423f54d96404ca420b565179180", func := "boomerang/boomeranglaw02.KeysSort", spec := "keysSort", unfollowed := true, recurses := true, apart := false, narrowed := true }
def KeysSortUptoSaid : Prop := keysSortUptoRow.holds Try.pinned (OpenSpec.upto keysSortSpec)

/-- 'boomeranglaw02.KeysBatches', WHERE WHAT IT READS IS OF BULK AT MOST 1048576: true; the input reads as it did. -/
def keysBatchesUptoRow : OpenClaim := { program := "ytejdfgonkfgnfaa", sum := "00c49ee01c7f84ac9822436ccac486bcd0550423f54d96404ca420b565179180", func := "boomerang/boomeranglaw02.KeysBatches", spec := "keysBatches", unfollowed := true, recurses := true, apart := false, narrowed := true }
def KeysBatchesUptoSaid : Prop := keysBatchesUptoRow.holds Try.pinned (OpenSpec.upto keysBatchesSpec)

end Rows
end Go.Proofs.Ytejdfgonkfgnfaa

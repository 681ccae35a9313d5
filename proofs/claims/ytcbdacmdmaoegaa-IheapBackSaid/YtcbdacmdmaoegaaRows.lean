/-
  No cell of these rows narrows 'for every input' (looked for: loops, veiled, ifaces, maps, wideKeys, modest, calm, conditions, laid).
  DERIVED. THE GIVEN ROWS OF THIS SEAT. 7 by the template 'for every input the law returns true; each argument reads behind the call as it read before'; 0 by the template 'total and deterministic' (their statements: YtcbdacmdmaoegaaTotals.lean).
  GIVEN WITH THE SEED: the statements are not yours to turn. If you find one false, say at which input.
  Laid BY PROGRAM, IN A SANDBOX (cutbox-rows.mjs): the forced cells as the released guide's own fill.sh prints them over the translation accc5d22a29dbbce… (all of the seat's roots in one cut). By AI agents, Wed Nov 11 2026. No macro, syntax, notation, axiom, sorry.
-/
import Derived.Test.YtcbdacmdmaoegaaChecked
import GoSem.Claim
import GoSem.ClaimJoined
import GoSem.ClaimMapViews
import Derived.JoinedTies
import Derived.KernelRfl
namespace Go.Proofs.Ytcbdacmdmaoegaa
/- THE CELL 'sum', in the pinned program and in every row, IS THE sha256 OF THE DUMP (.gsa) THAT YtcbdacmdmaoegaaProg.lean LOADS. Nothing in Lean hashes anything: it is a label: what it is worth is what the hold of that sum in a sandbox is worth. -/
noncomputable def Try.pinned : Pinned := { name := "ytcbdacmdmaoegaa", sum := "accc5d22a29dbbce06871288630926b5454996899781f25b4757d0014c3895be", checked := Try.checked }
namespace Rows
def none {H : Type} : Left H := { results := [], args := [] }

/-- 'boomeranglaw02.KeysBatches': WHATEVER THE INPUT: true; the input reads as it did. -/
def keysBatchesSpec : ChangeSpec := { name := "keysBatches", fn := fun _ => fun
  | [d1, d2] => { results := [.lit (.bool true)], args := [d1, d2] }
  | _ => none }
def keysBatchesRow : OpenClaim := { program := "ytcbdacmdmaoegaa", sum := "accc5d22a29dbbce06871288630926b5454996899781f25b4757d0014c3895be", func := "boomerang/boomeranglaw02.KeysBatches", spec := "keysBatches", unfollowed := true, recurses := true, plainKeys := false, apart := false }
def KeysBatchesSaid : Prop := keysBatchesRow.holds Try.pinned (OpenSpec.ofChange keysBatchesSpec)

/-- ITS FALSE NEIGHBOUR: 'it returns false'. Refute it at one input. -/
def keysBatchesWrong : ChangeSpec := { name := "keysBatches", fn := fun _ => fun
  | [d1, d2] => { results := [.lit (.bool false)], args := [d1, d2] }
  | _ => none }
def KeysBatchesWrongFalsely : Prop := keysBatchesRow.holds Try.pinned (OpenSpec.ofChange keysBatchesWrong)

/-- 'boomeranglaw02.KeysSort': WHATEVER THE INPUT: true; the input reads as it did. -/
def keysSortSpec : ChangeSpec := { name := "keysSort", fn := fun _ => fun
  | [d] => { results := [.lit (.bool true)], args := [d] }
  | _ => none }
def keysSortRow : OpenClaim := { program := "ytcbdacmdmaoegaa", sum := "accc5d22a29dbbce06871288630926b5454996899781f25b4757d0014c3895be", func := "boomerang/boomeranglaw02.KeysSort", spec := "keysSort", unfollowed := true, recurses := true, plainKeys := false, apart := false }
def KeysSortSaid : Prop := keysSortRow.holds Try.pinned (OpenSpec.ofChange keysSortSpec)

/-- ITS FALSE NEIGHBOUR: 'it returns false'. Refute it at one input. -/
def keysSortWrong : ChangeSpec := { name := "keysSort", fn := fun _ => fun
  | [d] => { results := [.lit (.bool false)], args := [d] }
  | _ => none }
def KeysSortWrongFalsely : Prop := keysSortRow.holds Try.pinned (OpenSpec.ofChange keysSortWrong)

/-- 'boomeranglaw03.IheapBack': WHATEVER THE INPUT: true; the input reads as it did. -/
def iheapBackSpec : ChangeSpec := { name := "iheapBack", fn := fun _ => fun
  | [d1, d2, d3] => { results := [.lit (.bool true)], args := [d1, d2, d3] }
  | _ => none }
def iheapBackRow : OpenClaim := { program := "ytcbdacmdmaoegaa", sum := "accc5d22a29dbbce06871288630926b5454996899781f25b4757d0014c3895be", func := "boomerang/boomeranglaw03.IheapBack", spec := "iheapBack", unfollowed := true, recurses := true, plainKeys := false, apart := false }
def IheapBackSaid : Prop := iheapBackRow.holds Try.pinned (OpenSpec.ofChange iheapBackSpec)

/-- ITS FALSE NEIGHBOUR: 'it returns false'. Refute it at one input. -/
def iheapBackWrong : ChangeSpec := { name := "iheapBack", fn := fun _ => fun
  | [d1, d2, d3] => { results := [.lit (.bool false)], args := [d1, d2, d3] }
  | _ => none }
def IheapBackWrongFalsely : Prop := iheapBackRow.holds Try.pinned (OpenSpec.ofChange iheapBackWrong)

/-- 'boomeranglaw03.IheapCopies': WHATEVER THE INPUT: true; the input reads as it did. -/
def iheapCopiesSpec : ChangeSpec := { name := "iheapCopies", fn := fun _ => fun
  | [d1, d2] => { results := [.lit (.bool true)], args := [d1, d2] }
  | _ => none }
def iheapCopiesRow : OpenClaim := { program := "ytcbdacmdmaoegaa", sum := "accc5d22a29dbbce06871288630926b5454996899781f25b4757d0014c3895be", func := "boomerang/boomeranglaw03.IheapCopies", spec := "iheapCopies", inPlace := ["maps.clone"], unfollowed := true, recurses := true, plainKeys := false, apart := false }
def IheapCopiesSaid : Prop := iheapCopiesRow.holds Try.pinned (OpenSpec.ofChange iheapCopiesSpec)

/-- ITS FALSE NEIGHBOUR: 'it returns false'. Refute it at one input. -/
def iheapCopiesWrong : ChangeSpec := { name := "iheapCopies", fn := fun _ => fun
  | [d1, d2] => { results := [.lit (.bool false)], args := [d1, d2] }
  | _ => none }
def IheapCopiesWrongFalsely : Prop := iheapCopiesRow.holds Try.pinned (OpenSpec.ofChange iheapCopiesWrong)

/-- 'boomeranglaw03.IheapNil': WHATEVER THE INPUT: true; the input reads as it did. -/
def iheapNilSpec : ChangeSpec := { name := "iheapNil", fn := fun _ => fun
  | [d] => { results := [.lit (.bool true)], args := [d] }
  | _ => none }
def iheapNilRow : OpenClaim := { program := "ytcbdacmdmaoegaa", sum := "accc5d22a29dbbce06871288630926b5454996899781f25b4757d0014c3895be", func := "boomerang/boomeranglaw03.IheapNil", spec := "iheapNil", inPlace := ["maps.clone"], unfollowed := true, recurses := true, plainKeys := false, apart := false }
def IheapNilSaid : Prop := iheapNilRow.holds Try.pinned (OpenSpec.ofChange iheapNilSpec)

/-- ITS FALSE NEIGHBOUR: 'it returns false'. Refute it at one input. -/
def iheapNilWrong : ChangeSpec := { name := "iheapNil", fn := fun _ => fun
  | [d] => { results := [.lit (.bool false)], args := [d] }
  | _ => none }
def IheapNilWrongFalsely : Prop := iheapNilRow.holds Try.pinned (OpenSpec.ofChange iheapNilWrong)

/-- 'boomeranglaw03.IheapPlays': WHATEVER THE INPUT: true; the input reads as it did. -/
def iheapPlaysSpec : ChangeSpec := { name := "iheapPlays", fn := fun _ => fun
  | [d] => { results := [.lit (.bool true)], args := [d] }
  | _ => none }
def iheapPlaysRow : OpenClaim := { program := "ytcbdacmdmaoegaa", sum := "accc5d22a29dbbce06871288630926b5454996899781f25b4757d0014c3895be", func := "boomerang/boomeranglaw03.IheapPlays", spec := "iheapPlays", unfollowed := true, recurses := true, plainKeys := false, apart := false }
def IheapPlaysSaid : Prop := iheapPlaysRow.holds Try.pinned (OpenSpec.ofChange iheapPlaysSpec)

/-- ITS FALSE NEIGHBOUR: 'it returns false'. Refute it at one input. -/
def iheapPlaysWrong : ChangeSpec := { name := "iheapPlays", fn := fun _ => fun
  | [d] => { results := [.lit (.bool false)], args := [d] }
  | _ => none }
def IheapPlaysWrongFalsely : Prop := iheapPlaysRow.holds Try.pinned (OpenSpec.ofChange iheapPlaysWrong)

/-- 'boomeranglaw03.IheapTimes': WHATEVER THE INPUT: true; the input reads as it did. -/
def iheapTimesSpec : ChangeSpec := { name := "iheapTimes", fn := fun _ => fun
  | [d] => { results := [.lit (.bool true)], args := [d] }
  | _ => none }
def iheapTimesRow : OpenClaim := { program := "ytcbdacmdmaoegaa", sum := "accc5d22a29dbbce06871288630926b5454996899781f25b4757d0014c3895be", func := "boomerang/boomeranglaw03.IheapTimes", spec := "iheapTimes", unfollowed := true, recurses := true, plainKeys := false, apart := false }
def IheapTimesSaid : Prop := iheapTimesRow.holds Try.pinned (OpenSpec.ofChange iheapTimesSpec)

/-- ITS FALSE NEIGHBOUR: 'it returns false'. Refute it at one input. -/
def iheapTimesWrong : ChangeSpec := { name := "iheapTimes", fn := fun _ => fun
  | [d] => { results := [.lit (.bool false)], args := [d] }
  | _ => none }
def IheapTimesWrongFalsely : Prop := iheapTimesRow.holds Try.pinned (OpenSpec.ofChange iheapTimesWrong)

/- THE SECOND FORM. 'bulk': how many values and letters a reading holds, each counted each time it is reached (what is shared counts as often as it is met; a slice's spare places count too). A statement '..UptoSaid' is the law's where the arguments, and the package variables that the reading takes, are together of bulk at most 1048576: NARROWER than '..Said'. Prove '..Said' where nothing that the law and all that it calls make is longer than what came in: it says more and counts as full. Else prove '..UptoSaid'. A law counts once. -/
mutual
def uptoBulk {H : Type} : DataW H → Nat
  | .lit (.string bytes) => bytes.length + 1
  | .lit _ => 1
  | .nil => 1
  | .ptr d => uptoBulk d + 1
  | .slice elems spare => uptoBulkAll elems + uptoBulkAll spare + 1
  | .agg parts => uptoBulkAll parts + 1
  | .iface _ d => uptoBulk d + 1
  | .map entries => uptoBulkEntries entries + 1
  | .held _ => 1
def uptoBulkAll {H : Type} : List (DataW H) → Nat
  | [] => 0
  | d :: r => uptoBulk d + uptoBulkAll r
def uptoBulkEntries {H : Type} : List (Lit × DataW H) → Nat
  | [] => 0
  | x :: r => uptoBulkEntry x + uptoBulkEntries r
def uptoBulkEntry {H : Type} : Lit × DataW H → Nat
  | (.string bytes, d) => bytes.length + uptoBulk d + 1
  | (_, d) => uptoBulk d + 1
 end
def uptoSmall : (H : Type) → List (DataW H) → Bool := fun _ ds => decide (uptoBulkAll ds ≤ 1048576)
def OpenSpec.upto (s : _root_.Go.ChangeSpec) : _root_.Go.OpenSpec := { _root_.Go.OpenSpec.ofChange s with cond := some uptoSmall }

/-- 'boomeranglaw02.KeysBatches', WHERE WHAT IT READS IS OF BULK AT MOST 1048576: true; the input reads as it did. -/
def keysBatchesUptoRow : OpenClaim := { program := "ytcbdacmdmaoegaa", sum := "accc5d22a29dbbce06871288630926b5454996899781f25b4757d0014c3895be", func := "boomerang/boomeranglaw02.KeysBatches", spec := "keysBatches", unfollowed := true, recurses := true, plainKeys := false, apart := false, narrowed := true }
def KeysBatchesUptoSaid : Prop := keysBatchesUptoRow.holds Try.pinned (OpenSpec.upto keysBatchesSpec)

/-- 'boomeranglaw02.KeysSort', WHERE WHAT IT READS IS OF BULK AT MOST 1048576: true; the input reads as it did. -/
def keysSortUptoRow : OpenClaim := { program := "ytcbdacmdmaoegaa", sum := "accc5d22a29dbbce06871288630926b5454996899781f25b4757d0014c3895be", func := "boomerang/boomeranglaw02.KeysSort", spec := "keysSort", unfollowed := true, recurses := true, plainKeys := false, apart := false, narrowed := true }
def KeysSortUptoSaid : Prop := keysSortUptoRow.holds Try.pinned (OpenSpec.upto keysSortSpec)

/-- 'boomeranglaw03.IheapBack', WHERE WHAT IT READS IS OF BULK AT MOST 1048576: true; the input reads as it did. -/
def iheapBackUptoRow : OpenClaim := { program := "ytcbdacmdmaoegaa", sum := "accc5d22a29dbbce06871288630926b5454996899781f25b4757d0014c3895be", func := "boomerang/boomeranglaw03.IheapBack", spec := "iheapBack", unfollowed := true, recurses := true, plainKeys := false, apart := false, narrowed := true }
def IheapBackUptoSaid : Prop := iheapBackUptoRow.holds Try.pinned (OpenSpec.upto iheapBackSpec)

/-- 'boomeranglaw03.IheapCopies', WHERE WHAT IT READS IS OF BULK AT MOST 1048576: true; the input reads as it did. -/
def iheapCopiesUptoRow : OpenClaim := { program := "ytcbdacmdmaoegaa", sum := "accc5d22a29dbbce06871288630926b5454996899781f25b4757d0014c3895be", func := "boomerang/boomeranglaw03.IheapCopies", spec := "iheapCopies", inPlace := ["maps.clone"], unfollowed := true, recurses := true, plainKeys := false, apart := false, narrowed := true }
def IheapCopiesUptoSaid : Prop := iheapCopiesUptoRow.holds Try.pinned (OpenSpec.upto iheapCopiesSpec)

/-- 'boomeranglaw03.IheapNil', WHERE WHAT IT READS IS OF BULK AT MOST 1048576: true; the input reads as it did. -/
def iheapNilUptoRow : OpenClaim := { program := "ytcbdacmdmaoegaa", sum := "accc5d22a29dbbce06871288630926b5454996899781f25b4757d0014c3895be", func := "boomerang/boomeranglaw03.IheapNil", spec := "iheapNil", inPlace := ["maps.clone"], unfollowed := true, recurses := true, plainKeys := false, apart := false, narrowed := true }
def IheapNilUptoSaid : Prop := iheapNilUptoRow.holds Try.pinned (OpenSpec.upto iheapNilSpec)

/-- 'boomeranglaw03.IheapPlays', WHERE WHAT IT READS IS OF BULK AT MOST 1048576: true; the input reads as it did. -/
def iheapPlaysUptoRow : OpenClaim := { program := "ytcbdacmdmaoegaa", sum := "accc5d22a29dbbce06871288630926b5454996899781f25b4757d0014c3895be", func := "boomerang/boomeranglaw03.IheapPlays", spec := "iheapPlays", unfollowed := true, recurses := true, plainKeys := false, apart := false, narrowed := true }
def IheapPlaysUptoSaid : Prop := iheapPlaysUptoRow.holds Try.pinned (OpenSpec.upto iheapPlaysSpec)

/-- 'boomeranglaw03.IheapTimes', WHERE WHAT IT READS IS OF BULK AT MOST 1048576: true; the input reads as it did. -/
def iheapTimesUptoRow : OpenClaim := { program := "ytcbdacmdmaoegaa", sum := "accc5d22a29dbbce06871288630926b5454996899781f25b4757d0014c3895be", func := "boomerang/boomeranglaw03.IheapTimes", spec := "iheapTimes", unfollowed := true, recurses := true, plainKeys := false, apart := false, narrowed := true }
def IheapTimesUptoSaid : Prop := iheapTimesUptoRow.holds Try.pinned (OpenSpec.upto iheapTimesSpec)

end Rows
end Go.Proofs.Ytcbdacmdmaoegaa

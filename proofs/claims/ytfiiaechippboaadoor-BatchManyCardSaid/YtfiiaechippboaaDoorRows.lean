/-
  NARROWER THAN 'FOR EVERY INPUT', by the rows' own cells (each row's printed sentence says how): BatchRuns: laid · BatchQuiet: laid · BatchSends: laid · BatchMany: laid · BatchParts: laid · BatchNil: laid.
  DERIVED. THE GIVEN ROWS OF THIS SEAT. 6 by the template 'for every input the law returns true; each argument reads behind the call as it read before'; 0 by the template 'total and deterministic' (their statements: YtfiiaechippboaaDoorTotals.lean).
  GIVEN WITH THE SEED: the statements are not yours to turn. If you find one false, say at which input.
  Laid BY PROGRAM, IN A SANDBOX (cutbox-rows.mjs): the forced cells as the released guide's own fill.sh prints them over the translation ae305f9d6e65d381… (all of the seat's roots in one cut). By AI agents, Wed Nov 11 2026. No macro, syntax, notation, axiom, sorry.
-/
import Derived.Test.YtfiiaechippboaaDoorChecked
import GoSem.Claim
import GoSem.ClaimJoined
import GoSem.ClaimMapViews
import Derived.JoinedTies
import Derived.KernelRfl
namespace Go.Proofs.YtfiiaechippboaaDoor
/- THE CELL 'sum', in the pinned program and in every row, IS THE sha256 OF THE DUMP (.gsa) THAT YtfiiaechippboaaDoorProg.lean LOADS. Nothing in Lean hashes anything: it is a label: what it is worth is what the hold of that sum in a sandbox is worth. -/
noncomputable def Tryd.pinned : Pinned := { name := "ytfiiaechippboaadoor", sum := "ae305f9d6e65d3819d8b00c63a057c30cd59f0be437605a4c92df5e19b176cdb", checked := Tryd.checked }
namespace Rows
def none {H : Type} : Left H := { results := [], args := [] }

/- WHAT THE LISTED PACKAGE-LEVEL VARIABLES READ AS WHEN THE CALL BEGINS. Each datum BY PROGRAM (the guide's laid-datum.mjs) off the statement by which the dump's own 'gosem.cut.vars' lays the variable. In a bare row this is a premise. The card (YtfiiaechippboaaDoorCards.lean) ties it to the program's text. -/
def laid_boomerang_code_table {H : Type} : DataW H := .agg [.agg [.agg [.lit (.string []), .lit (.int .i64 0)], .agg [.lit (.int .i64 0), .lit (.int .i64 0), .lit (.int .i64 0), .lit (.int .i64 0)]], .agg [.agg [.lit (.string [115, 101, 116]), .lit (.int .i64 2)], .agg [.lit (.int .i64 1), .lit (.int .i64 2), .lit (.int .i64 0), .lit (.int .i64 0)]], .agg [.agg [.lit (.string [109, 111, 118, 101]), .lit (.int .i64 2)], .agg [.lit (.int .i64 1), .lit (.int .i64 1), .lit (.int .i64 0), .lit (.int .i64 0)]], .agg [.agg [.lit (.string [97, 100, 100]), .lit (.int .i64 3)], .agg [.lit (.int .i64 1), .lit (.int .i64 1), .lit (.int .i64 1), .lit (.int .i64 0)]], .agg [.agg [.lit (.string [115, 117, 98]), .lit (.int .i64 3)], .agg [.lit (.int .i64 1), .lit (.int .i64 1), .lit (.int .i64 1), .lit (.int .i64 0)]], .agg [.agg [.lit (.string [109, 117, 108]), .lit (.int .i64 3)], .agg [.lit (.int .i64 1), .lit (.int .i64 1), .lit (.int .i64 1), .lit (.int .i64 0)]], .agg [.agg [.lit (.string [109, 111, 100]), .lit (.int .i64 3)], .agg [.lit (.int .i64 1), .lit (.int .i64 1), .lit (.int .i64 1), .lit (.int .i64 0)]], .agg [.agg [.lit (.string [108, 101, 115, 115]), .lit (.int .i64 3)], .agg [.lit (.int .i64 1), .lit (.int .i64 1), .lit (.int .i64 1), .lit (.int .i64 0)]], .agg [.agg [.lit (.string [106, 117, 109, 112]), .lit (.int .i64 1)], .agg [.lit (.int .i64 3), .lit (.int .i64 0), .lit (.int .i64 0), .lit (.int .i64 0)]], .agg [.agg [.lit (.string [122, 101, 114, 111]), .lit (.int .i64 2)], .agg [.lit (.int .i64 1), .lit (.int .i64 3), .lit (.int .i64 0), .lit (.int .i64 0)]], .agg [.agg [.lit (.string [110, 111, 119]), .lit (.int .i64 1)], .agg [.lit (.int .i64 1), .lit (.int .i64 0), .lit (.int .i64 0), .lit (.int .i64 0)]], .agg [.agg [.lit (.string [107, 105, 110, 100]), .lit (.int .i64 1)], .agg [.lit (.int .i64 1), .lit (.int .i64 0), .lit (.int .i64 0), .lit (.int .i64 0)]], .agg [.agg [.lit (.string [100, 97, 116, 97]), .lit (.int .i64 1)], .agg [.lit (.int .i64 1), .lit (.int .i64 0), .lit (.int .i64 0), .lit (.int .i64 0)]], .agg [.agg [.lit (.string [115, 101, 108, 102]), .lit (.int .i64 1)], .agg [.lit (.int .i64 1), .lit (.int .i64 0), .lit (.int .i64 0), .lit (.int .i64 0)]], .agg [.agg [.lit (.string [115, 101, 110, 100]), .lit (.int .i64 4)], .agg [.lit (.int .i64 1), .lit (.int .i64 1), .lit (.int .i64 1), .lit (.int .i64 4)]], .agg [.agg [.lit (.string [115, 116, 111, 112]), .lit (.int .i64 0)], .agg [.lit (.int .i64 0), .lit (.int .i64 0), .lit (.int .i64 0), .lit (.int .i64 0)]]]

/-- 'boomeranglaw08.BatchRuns': WHATEVER THE INPUT: true; the input reads as it did. -/
def batchRunsSpec : ChangeSpec := { name := "batchRuns", fn := fun _ => fun
  | [d1, d2] => { results := [.lit (.bool true)], args := [d1, d2] }
  | _ => none }
def batchRunsRow : OpenClaim := { program := "ytfiiaechippboaadoor", sum := "ae305f9d6e65d3819d8b00c63a057c30cd59f0be437605a4c92df5e19b176cdb", func := "boomerang/boomeranglaw08.BatchRuns", spec := "batchRuns", unfollowed := true, recurses := true, named := ["boomerang/code.table"], apart := false, laid := [("boomerang/code.table", laid_boomerang_code_table)] }
def BatchRunsSaid : Prop := batchRunsRow.holds Tryd.pinned (OpenSpec.ofChange batchRunsSpec)

/-- ITS FALSE NEIGHBOUR: 'it returns false'. Refute it at one input. -/
def batchRunsWrong : ChangeSpec := { name := "batchRuns", fn := fun _ => fun
  | [d1, d2] => { results := [.lit (.bool false)], args := [d1, d2] }
  | _ => none }
def BatchRunsWrongFalsely : Prop := batchRunsRow.holds Tryd.pinned (OpenSpec.ofChange batchRunsWrong)

/-- 'boomeranglaw08.BatchQuiet': WHATEVER THE INPUT: true; the input reads as it did. -/
def batchQuietSpec : ChangeSpec := { name := "batchQuiet", fn := fun _ => fun
  | [d1, d2] => { results := [.lit (.bool true)], args := [d1, d2] }
  | _ => none }
def batchQuietRow : OpenClaim := { program := "ytfiiaechippboaadoor", sum := "ae305f9d6e65d3819d8b00c63a057c30cd59f0be437605a4c92df5e19b176cdb", func := "boomerang/boomeranglaw08.BatchQuiet", spec := "batchQuiet", unfollowed := true, recurses := true, named := ["boomerang/code.table"], apart := false, laid := [("boomerang/code.table", laid_boomerang_code_table)] }
def BatchQuietSaid : Prop := batchQuietRow.holds Tryd.pinned (OpenSpec.ofChange batchQuietSpec)

/-- ITS FALSE NEIGHBOUR: 'it returns false'. Refute it at one input. -/
def batchQuietWrong : ChangeSpec := { name := "batchQuiet", fn := fun _ => fun
  | [d1, d2] => { results := [.lit (.bool false)], args := [d1, d2] }
  | _ => none }
def BatchQuietWrongFalsely : Prop := batchQuietRow.holds Tryd.pinned (OpenSpec.ofChange batchQuietWrong)

/-- 'boomeranglaw08.BatchSends': WHATEVER THE INPUT: true; the input reads as it did. -/
def batchSendsSpec : ChangeSpec := { name := "batchSends", fn := fun _ => fun
  | [d1, d2] => { results := [.lit (.bool true)], args := [d1, d2] }
  | _ => none }
def batchSendsRow : OpenClaim := { program := "ytfiiaechippboaadoor", sum := "ae305f9d6e65d3819d8b00c63a057c30cd59f0be437605a4c92df5e19b176cdb", func := "boomerang/boomeranglaw08.BatchSends", spec := "batchSends", unfollowed := true, recurses := true, named := ["boomerang/code.table"], apart := false, laid := [("boomerang/code.table", laid_boomerang_code_table)] }
def BatchSendsSaid : Prop := batchSendsRow.holds Tryd.pinned (OpenSpec.ofChange batchSendsSpec)

/-- ITS FALSE NEIGHBOUR: 'it returns false'. Refute it at one input. -/
def batchSendsWrong : ChangeSpec := { name := "batchSends", fn := fun _ => fun
  | [d1, d2] => { results := [.lit (.bool false)], args := [d1, d2] }
  | _ => none }
def BatchSendsWrongFalsely : Prop := batchSendsRow.holds Tryd.pinned (OpenSpec.ofChange batchSendsWrong)

/-- 'boomeranglaw08.BatchMany': WHATEVER THE INPUT: true; the input reads as it did. -/
def batchManySpec : ChangeSpec := { name := "batchMany", fn := fun _ => fun
  | [d1, d2] => { results := [.lit (.bool true)], args := [d1, d2] }
  | _ => none }
def batchManyRow : OpenClaim := { program := "ytfiiaechippboaadoor", sum := "ae305f9d6e65d3819d8b00c63a057c30cd59f0be437605a4c92df5e19b176cdb", func := "boomerang/boomeranglaw08.BatchMany", spec := "batchMany", unfollowed := true, recurses := true, named := ["boomerang/code.table"], apart := false, laid := [("boomerang/code.table", laid_boomerang_code_table)] }
def BatchManySaid : Prop := batchManyRow.holds Tryd.pinned (OpenSpec.ofChange batchManySpec)

/-- ITS FALSE NEIGHBOUR: 'it returns false'. Refute it at one input. -/
def batchManyWrong : ChangeSpec := { name := "batchMany", fn := fun _ => fun
  | [d1, d2] => { results := [.lit (.bool false)], args := [d1, d2] }
  | _ => none }
def BatchManyWrongFalsely : Prop := batchManyRow.holds Tryd.pinned (OpenSpec.ofChange batchManyWrong)

/-- 'boomeranglaw08.BatchParts': WHATEVER THE INPUT: true; the input reads as it did. -/
def batchPartsSpec : ChangeSpec := { name := "batchParts", fn := fun _ => fun
  | [d1, d2, d3] => { results := [.lit (.bool true)], args := [d1, d2, d3] }
  | _ => none }
def batchPartsRow : OpenClaim := { program := "ytfiiaechippboaadoor", sum := "ae305f9d6e65d3819d8b00c63a057c30cd59f0be437605a4c92df5e19b176cdb", func := "boomerang/boomeranglaw08.BatchParts", spec := "batchParts", unfollowed := true, recurses := true, named := ["boomerang/code.table"], apart := false, laid := [("boomerang/code.table", laid_boomerang_code_table)] }
def BatchPartsSaid : Prop := batchPartsRow.holds Tryd.pinned (OpenSpec.ofChange batchPartsSpec)

/-- ITS FALSE NEIGHBOUR: 'it returns false'. Refute it at one input. -/
def batchPartsWrong : ChangeSpec := { name := "batchParts", fn := fun _ => fun
  | [d1, d2, d3] => { results := [.lit (.bool false)], args := [d1, d2, d3] }
  | _ => none }
def BatchPartsWrongFalsely : Prop := batchPartsRow.holds Tryd.pinned (OpenSpec.ofChange batchPartsWrong)

/-- 'boomeranglaw08.BatchNil': WHATEVER THE INPUT: true; the input reads as it did. -/
def batchNilSpec : ChangeSpec := { name := "batchNil", fn := fun _ => fun
  | [d] => { results := [.lit (.bool true)], args := [d] }
  | _ => none }
def batchNilRow : OpenClaim := { program := "ytfiiaechippboaadoor", sum := "ae305f9d6e65d3819d8b00c63a057c30cd59f0be437605a4c92df5e19b176cdb", func := "boomerang/boomeranglaw08.BatchNil", spec := "batchNil", unfollowed := true, recurses := true, named := ["boomerang/code.table"], apart := false, laid := [("boomerang/code.table", laid_boomerang_code_table)] }
def BatchNilSaid : Prop := batchNilRow.holds Tryd.pinned (OpenSpec.ofChange batchNilSpec)

/-- ITS FALSE NEIGHBOUR: 'it returns false'. Refute it at one input. -/
def batchNilWrong : ChangeSpec := { name := "batchNil", fn := fun _ => fun
  | [d] => { results := [.lit (.bool false)], args := [d] }
  | _ => none }
def BatchNilWrongFalsely : Prop := batchNilRow.holds Tryd.pinned (OpenSpec.ofChange batchNilWrong)

/- THE SECOND FORM. 'bulk': how many values and letters a reading holds, each counted each time it is reached (what is shared counts as often as it is met; a slice's spare places count too). A statement '..UptoSaid' is the law's where the arguments, and the package variables that the reading takes, are together of bulk at most 1048576: NARROWER than '..Said'. Prove '..Said' where nothing that the law and all that it calls make is longer than what came in: it says more and counts as full. Else prove '..UptoSaid'. A law counts once. -/
mutual
def uptoBulk {H : Type} : DataW H → Nat
  | .lit (.string bytes) => bytes.length + 1
  | .lit _ => 1
  | .nil => 1
  | .ptr d => uptoBulk d + 1
  | .slice elems spare => uptoBulkAll elems + uptoBulkAll spare + 1
  | .agg parts => uptoBulkAll parts + 1
  | .iface _ d => uptoBulk d + 1
  | .map entries => uptoBulkEntries entries + 1
  | .held _ => 1
def uptoBulkAll {H : Type} : List (DataW H) → Nat
  | [] => 0
  | d :: r => uptoBulk d + uptoBulkAll r
def uptoBulkEntries {H : Type} : List (Lit × DataW H) → Nat
  | [] => 0
  | x :: r => uptoBulkEntry x + uptoBulkEntries r
def uptoBulkEntry {H : Type} : Lit × DataW H → Nat
  | (.string bytes, d) => bytes.length + uptoBulk d + 1
  | (_, d) => uptoBulk d + 1
 end
def uptoSmall : (H : Type) → List (DataW H) → Bool := fun _ ds => decide (uptoBulkAll ds ≤ 1048576)
def OpenSpec.upto (s : _root_.Go.ChangeSpec) : _root_.Go.OpenSpec := { _root_.Go.OpenSpec.ofChange s with cond := some uptoSmall }

/-- 'boomeranglaw08.BatchRuns', WHERE WHAT IT READS IS OF BULK AT MOST 1048576: true; the input reads as it did. -/
def batchRunsUptoRow : OpenClaim := { program := "ytfiiaechippboaadoor", sum := "ae305f9d6e65d3819d8b00c63a057c30cd59f0be437605a4c92df5e19b176cdb", func := "boomerang/boomeranglaw08.BatchRuns", spec := "batchRuns", unfollowed := true, recurses := true, named := ["boomerang/code.table"], apart := false, laid := [("boomerang/code.table", laid_boomerang_code_table)], narrowed := true }
def BatchRunsUptoSaid : Prop := batchRunsUptoRow.holds Tryd.pinned (OpenSpec.upto batchRunsSpec)

/-- 'boomeranglaw08.BatchQuiet', WHERE WHAT IT READS IS OF BULK AT MOST 1048576: true; the input reads as it did. -/
def batchQuietUptoRow : OpenClaim := { program := "ytfiiaechippboaadoor", sum := "ae305f9d6e65d3819d8b00c63a057c30cd59f0be437605a4c92df5e19b176cdb", func := "boomerang/boomeranglaw08.BatchQuiet", spec := "batchQuiet", unfollowed := true, recurses := true, named := ["boomerang/code.table"], apart := false, laid := [("boomerang/code.table", laid_boomerang_code_table)], narrowed := true }
def BatchQuietUptoSaid : Prop := batchQuietUptoRow.holds Tryd.pinned (OpenSpec.upto batchQuietSpec)

/-- 'boomeranglaw08.BatchSends', WHERE WHAT IT READS IS OF BULK AT MOST 1048576: true; the input reads as it did. -/
def batchSendsUptoRow : OpenClaim := { program := "ytfiiaechippboaadoor", sum := "ae305f9d6e65d3819d8b00c63a057c30cd59f0be437605a4c92df5e19b176cdb", func := "boomerang/boomeranglaw08.BatchSends", spec := "batchSends", unfollowed := true, recurses := true, named := ["boomerang/code.table"], apart := false, laid := [("boomerang/code.table", laid_boomerang_code_table)], narrowed := true }
def BatchSendsUptoSaid : Prop := batchSendsUptoRow.holds Tryd.pinned (OpenSpec.upto batchSendsSpec)

/-- 'boomeranglaw08.BatchMany', WHERE WHAT IT READS IS OF BULK AT MOST 1048576: true; the input reads as it did. -/
def batchManyUptoRow : OpenClaim := { program := "ytfiiaechippboaadoor", sum := "ae305f9d6e65d3819d8b00c63a057c30cd59f0be437605a4c92df5e19b176cdb", func := "boomerang/boomeranglaw08.BatchMany", spec := "batchMany", unfollowed := true, recurses := true, named := ["boomerang/code.table"], apart := false, laid := [("boomerang/code.table", laid_boomerang_code_table)], narrowed := true }
def BatchManyUptoSaid : Prop := batchManyUptoRow.holds Tryd.pinned (OpenSpec.upto batchManySpec)

/-- 'boomeranglaw08.BatchParts', WHERE WHAT IT READS IS OF BULK AT MOST 1048576: true; the input reads as it did. -/
def batchPartsUptoRow : OpenClaim := { program := "ytfiiaechippboaadoor", sum := "ae305f9d6e65d3819d8b00c63a057c30cd59f0be437605a4c92df5e19b176cdb", func := "boomerang/boomeranglaw08.BatchParts", spec := "batchParts", unfollowed := true, recurses := true, named := ["boomerang/code.table"], apart := false, laid := [("boomerang/code.table", laid_boomerang_code_table)], narrowed := true }
def BatchPartsUptoSaid : Prop := batchPartsUptoRow.holds Tryd.pinned (OpenSpec.upto batchPartsSpec)

/-- 'boomeranglaw08.BatchNil', WHERE WHAT IT READS IS OF BULK AT MOST 1048576: true; the input reads as it did. -/
def batchNilUptoRow : OpenClaim := { program := "ytfiiaechippboaadoor", sum := "ae305f9d6e65d3819d8b00c63a057c30cd59f0be437605a4c92df5e19b176cdb", func := "boomerang/boomeranglaw08.BatchNil", spec := "batchNil", unfollowed := true, recurses := true, named := ["boomerang/code.table"], apart := false, laid := [("boomerang/code.table", laid_boomerang_code_table)], narrowed := true }
def BatchNilUptoSaid : Prop := batchNilUptoRow.holds Tryd.pinned (OpenSpec.upto batchNilSpec)

end Rows
end Go.Proofs.YtfiiaechippboaaDoor

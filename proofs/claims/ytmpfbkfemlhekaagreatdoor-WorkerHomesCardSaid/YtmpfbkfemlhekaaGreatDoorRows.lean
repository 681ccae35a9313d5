/-
  NARROWER THAN 'FOR EVERY INPUT', by the rows' own cells (each row's printed sentence says how): WorkerHomes: laid · WorkerNil: laid · WorkerReports: laid.
  DERIVED. THE GIVEN ROWS OF THIS SEAT. 3 by the template 'for every input the law returns true; each argument reads behind the call as it read before'; 0 by the template 'total and deterministic' (their statements: YtmpfbkfemlhekaaGreatDoorTotals.lean).
  GIVEN WITH THE SEED: the statements are not yours to turn. If you find one false, say at which input.
  Laid BY PROGRAM, IN A SANDBOX (cutbox-rows.mjs): the forced cells as the released guide's own fill.sh prints them over the translation 752a0bd9f367c78a… (all of the seat's roots in one cut). By AI agents, Wed Nov 11 2026. No macro, syntax, notation, axiom, sorry.
-/
import Derived.Test.YtmpfbkfemlhekaaGreatDoorChecked
import GoSem.Claim
import GoSem.ClaimJoined
import GoSem.ClaimMapViews
import Derived.JoinedTies
import Derived.KernelRfl
namespace Go.Proofs.YtmpfbkfemlhekaaGreatDoor
/- THE CELL 'sum', in the pinned program and in every row, IS THE sha256 OF THE DUMP (.gsa) THAT YtmpfbkfemlhekaaGreatDoorProg.lean LOADS. Nothing in Lean hashes anything: it is a label: what it is worth is what the hold of that sum in a sandbox is worth. -/
noncomputable def Tryz.pinned : Pinned := { name := "ytmpfbkfemlhekaagreatdoor", sum := "752a0bd9f367c78a246a705d85b6138a76fe6003c0b9ad2f4289aff6297bb113", checked := Tryz.checked }
namespace Rows
def none {H : Type} : Left H := { results := [], args := [] }

/- WHAT THE LISTED PACKAGE-LEVEL VARIABLES READ AS WHEN THE CALL BEGINS. Each datum BY PROGRAM (the guide's laid-datum.mjs) off the statement by which the dump's own 'gosem.cut.vars' lays the variable. In a bare row this is a premise. The card (YtmpfbkfemlhekaaGreatDoorCards.lean) ties it to the program's text. -/
def laid_boomerang_code_table {H : Type} : DataW H := .agg [.agg [.agg [.lit (.string []), .lit (.int .i64 0)], .agg [.lit (.int .i64 0), .lit (.int .i64 0), .lit (.int .i64 0), .lit (.int .i64 0)]], .agg [.agg [.lit (.string [115, 101, 116]), .lit (.int .i64 2)], .agg [.lit (.int .i64 1), .lit (.int .i64 2), .lit (.int .i64 0), .lit (.int .i64 0)]], .agg [.agg [.lit (.string [109, 111, 118, 101]), .lit (.int .i64 2)], .agg [.lit (.int .i64 1), .lit (.int .i64 1), .lit (.int .i64 0), .lit (.int .i64 0)]], .agg [.agg [.lit (.string [97, 100, 100]), .lit (.int .i64 3)], .agg [.lit (.int .i64 1), .lit (.int .i64 1), .lit (.int .i64 1), .lit (.int .i64 0)]], .agg [.agg [.lit (.string [115, 117, 98]), .lit (.int .i64 3)], .agg [.lit (.int .i64 1), .lit (.int .i64 1), .lit (.int .i64 1), .lit (.int .i64 0)]], .agg [.agg [.lit (.string [109, 117, 108]), .lit (.int .i64 3)], .agg [.lit (.int .i64 1), .lit (.int .i64 1), .lit (.int .i64 1), .lit (.int .i64 0)]], .agg [.agg [.lit (.string [109, 111, 100]), .lit (.int .i64 3)], .agg [.lit (.int .i64 1), .lit (.int .i64 1), .lit (.int .i64 1), .lit (.int .i64 0)]], .agg [.agg [.lit (.string [108, 101, 115, 115]), .lit (.int .i64 3)], .agg [.lit (.int .i64 1), .lit (.int .i64 1), .lit (.int .i64 1), .lit (.int .i64 0)]], .agg [.agg [.lit (.string [106, 117, 109, 112]), .lit (.int .i64 1)], .agg [.lit (.int .i64 3), .lit (.int .i64 0), .lit (.int .i64 0), .lit (.int .i64 0)]], .agg [.agg [.lit (.string [122, 101, 114, 111]), .lit (.int .i64 2)], .agg [.lit (.int .i64 1), .lit (.int .i64 3), .lit (.int .i64 0), .lit (.int .i64 0)]], .agg [.agg [.lit (.string [110, 111, 119]), .lit (.int .i64 1)], .agg [.lit (.int .i64 1), .lit (.int .i64 0), .lit (.int .i64 0), .lit (.int .i64 0)]], .agg [.agg [.lit (.string [107, 105, 110, 100]), .lit (.int .i64 1)], .agg [.lit (.int .i64 1), .lit (.int .i64 0), .lit (.int .i64 0), .lit (.int .i64 0)]], .agg [.agg [.lit (.string [100, 97, 116, 97]), .lit (.int .i64 1)], .agg [.lit (.int .i64 1), .lit (.int .i64 0), .lit (.int .i64 0), .lit (.int .i64 0)]], .agg [.agg [.lit (.string [115, 101, 108, 102]), .lit (.int .i64 1)], .agg [.lit (.int .i64 1), .lit (.int .i64 0), .lit (.int .i64 0), .lit (.int .i64 0)]], .agg [.agg [.lit (.string [115, 101, 110, 100]), .lit (.int .i64 4)], .agg [.lit (.int .i64 1), .lit (.int .i64 1), .lit (.int .i64 1), .lit (.int .i64 4)]], .agg [.agg [.lit (.string [115, 116, 111, 112]), .lit (.int .i64 0)], .agg [.lit (.int .i64 0), .lit (.int .i64 0), .lit (.int .i64 0), .lit (.int .i64 0)]]]

/-- 'boomeranglaw18.WorkerHomes': WHATEVER THE INPUT: true; the input reads as it did. -/
def workerHomesSpec : ChangeSpec := { name := "workerHomes", fn := fun _ => fun
  | [d1, d2, d3] => { results := [.lit (.bool true)], args := [d1, d2, d3] }
  | _ => none }
def workerHomesRow : OpenClaim := { program := "ytmpfbkfemlhekaagreatdoor", sum := "752a0bd9f367c78a246a705d85b6138a76fe6003c0b9ad2f4289aff6297bb113", func := "boomerang/boomeranglaw18.WorkerHomes", spec := "workerHomes", inPlace := ["slices.overlaps[boomerang/api.Event]"], unfollowed := true, recurses := true, named := ["boomerang/code.table"], plainKeys := false, apart := false, laid := [("boomerang/code.table", laid_boomerang_code_table)] }
def WorkerHomesSaid : Prop := workerHomesRow.holds Tryz.pinned (OpenSpec.ofChange workerHomesSpec)

/-- ITS FALSE NEIGHBOUR: 'it returns false'. Refute it at one input. -/
def workerHomesWrong : ChangeSpec := { name := "workerHomes", fn := fun _ => fun
  | [d1, d2, d3] => { results := [.lit (.bool false)], args := [d1, d2, d3] }
  | _ => none }
def WorkerHomesWrongFalsely : Prop := workerHomesRow.holds Tryz.pinned (OpenSpec.ofChange workerHomesWrong)

/-- 'boomeranglaw18.WorkerNil': WHATEVER THE INPUT: true; the input reads as it did. -/
def workerNilSpec : ChangeSpec := { name := "workerNil", fn := fun _ => fun
  | [d] => { results := [.lit (.bool true)], args := [d] }
  | _ => none }
def workerNilRow : OpenClaim := { program := "ytmpfbkfemlhekaagreatdoor", sum := "752a0bd9f367c78a246a705d85b6138a76fe6003c0b9ad2f4289aff6297bb113", func := "boomerang/boomeranglaw18.WorkerNil", spec := "workerNil", inPlace := ["slices.overlaps[boomerang/api.Event]", "slices.overlaps[boomerang/outq.record]"], unfollowed := true, recurses := true, named := ["boomerang/code.table"], plainKeys := false, apart := false, laid := [("boomerang/code.table", laid_boomerang_code_table)] }
def WorkerNilSaid : Prop := workerNilRow.holds Tryz.pinned (OpenSpec.ofChange workerNilSpec)

/-- ITS FALSE NEIGHBOUR: 'it returns false'. Refute it at one input. -/
def workerNilWrong : ChangeSpec := { name := "workerNil", fn := fun _ => fun
  | [d] => { results := [.lit (.bool false)], args := [d] }
  | _ => none }
def WorkerNilWrongFalsely : Prop := workerNilRow.holds Tryz.pinned (OpenSpec.ofChange workerNilWrong)

/-- 'boomeranglaw18.WorkerReports': WHATEVER THE INPUT: true; the input reads as it did. -/
def workerReportsSpec : ChangeSpec := { name := "workerReports", fn := fun _ => fun
  | [d1, d2, d3] => { results := [.lit (.bool true)], args := [d1, d2, d3] }
  | _ => none }
def workerReportsRow : OpenClaim := { program := "ytmpfbkfemlhekaagreatdoor", sum := "752a0bd9f367c78a246a705d85b6138a76fe6003c0b9ad2f4289aff6297bb113", func := "boomerang/boomeranglaw18.WorkerReports", spec := "workerReports", inPlace := ["slices.overlaps[boomerang/api.Event]", "slices.overlaps[boomerang/outq.record]"], unfollowed := true, recurses := true, named := ["boomerang/code.table"], plainKeys := false, apart := false, laid := [("boomerang/code.table", laid_boomerang_code_table)] }
def WorkerReportsSaid : Prop := workerReportsRow.holds Tryz.pinned (OpenSpec.ofChange workerReportsSpec)

/-- ITS FALSE NEIGHBOUR: 'it returns false'. Refute it at one input. -/
def workerReportsWrong : ChangeSpec := { name := "workerReports", fn := fun _ => fun
  | [d1, d2, d3] => { results := [.lit (.bool false)], args := [d1, d2, d3] }
  | _ => none }
def WorkerReportsWrongFalsely : Prop := workerReportsRow.holds Tryz.pinned (OpenSpec.ofChange workerReportsWrong)

/- THE SECOND FORM. 'bulk': how many values and letters a reading holds, each counted each time it is reached (what is shared counts as often as it is met; a slice's spare places count too). A statement '..UptoSaid' is the law's where the arguments, and the package variables that the reading takes, are together of bulk at most 1048576: NARROWER than '..Said'. Prove '..Said' where nothing that the law and all that it calls make is longer than what came in: it says more and counts as full. Else prove '..UptoSaid'. A law counts once. -/
mutual
def uptoBulk {H : Type} : DataW H → Nat
  | .lit (.string bytes) => bytes.length + 1
  | .lit _ => 1
  | .nil => 1
  | .ptr d => uptoBulk d + 1
  | .slice elems spare => uptoBulkAll elems + uptoBulkAll spare + 1
  | .agg parts => uptoBulkAll parts + 1
  | .iface _ d => uptoBulk d + 1
  | .map entries => uptoBulkEntries entries + 1
  | .held _ => 1
def uptoBulkAll {H : Type} : List (DataW H) → Nat
  | [] => 0
  | d :: r => uptoBulk d + uptoBulkAll r
def uptoBulkEntries {H : Type} : List (Lit × DataW H) → Nat
  | [] => 0
  | x :: r => uptoBulkEntry x + uptoBulkEntries r
def uptoBulkEntry {H : Type} : Lit × DataW H → Nat
  | (.string bytes, d) => bytes.length + uptoBulk d + 1
  | (_, d) => uptoBulk d + 1
 end
def uptoSmall : (H : Type) → List (DataW H) → Bool := fun _ ds => decide (uptoBulkAll ds ≤ 1048576)
def OpenSpec.upto (s : _root_.Go.ChangeSpec) : _root_.Go.OpenSpec := { _root_.Go.OpenSpec.ofChange s with cond := some uptoSmall }

/-- 'boomeranglaw18.WorkerHomes', WHERE WHAT IT READS IS OF BULK AT MOST 1048576: true; the input reads as it did. -/
def workerHomesUptoRow : OpenClaim := { program := "ytmpfbkfemlhekaagreatdoor", sum := "752a0bd9f367c78a246a705d85b6138a76fe6003c0b9ad2f4289aff6297bb113", func := "boomerang/boomeranglaw18.WorkerHomes", spec := "workerHomes", inPlace := ["slices.overlaps[boomerang/api.Event]"], unfollowed := true, recurses := true, named := ["boomerang/code.table"], plainKeys := false, apart := false, laid := [("boomerang/code.table", laid_boomerang_code_table)], narrowed := true }
def WorkerHomesUptoSaid : Prop := workerHomesUptoRow.holds Tryz.pinned (OpenSpec.upto workerHomesSpec)

/-- 'boomeranglaw18.WorkerNil', WHERE WHAT IT READS IS OF BULK AT MOST 1048576: true; the input reads as it did. -/
def workerNilUptoRow : OpenClaim := { program := "ytmpfbkfemlhekaagreatdoor", sum := "752a0bd9f367c78a246a705d85b6138a76fe6003c0b9ad2f4289aff6297bb113", func := "boomerang/boomeranglaw18.WorkerNil", spec := "workerNil", inPlace := ["slices.overlaps[boomerang/api.Event]", "slices.overlaps[boomerang/outq.record]"], unfollowed := true, recurses := true, named := ["boomerang/code.table"], plainKeys := false, apart := false, laid := [("boomerang/code.table", laid_boomerang_code_table)], narrowed := true }
def WorkerNilUptoSaid : Prop := workerNilUptoRow.holds Tryz.pinned (OpenSpec.upto workerNilSpec)

/-- 'boomeranglaw18.WorkerReports', WHERE WHAT IT READS IS OF BULK AT MOST 1048576: true; the input reads as it did. -/
def workerReportsUptoRow : OpenClaim := { program := "ytmpfbkfemlhekaagreatdoor", sum := "752a0bd9f367c78a246a705d85b6138a76fe6003c0b9ad2f4289aff6297bb113", func := "boomerang/boomeranglaw18.WorkerReports", spec := "workerReports", inPlace := ["slices.overlaps[boomerang/api.Event]", "slices.overlaps[boomerang/outq.record]"], unfollowed := true, recurses := true, named := ["boomerang/code.table"], plainKeys := false, apart := false, laid := [("boomerang/code.table", laid_boomerang_code_table)], narrowed := true }
def WorkerReportsUptoSaid : Prop := workerReportsUptoRow.holds Tryz.pinned (OpenSpec.upto workerReportsSpec)

end Rows
end Go.Proofs.YtmpfbkfemlhekaaGreatDoor

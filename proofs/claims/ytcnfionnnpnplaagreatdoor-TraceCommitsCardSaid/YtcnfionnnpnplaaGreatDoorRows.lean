/-
  NARROWER THAN 'FOR EVERY INPUT', by the rows' own cells (each row's printed sentence says how): TraceParts: laid · TraceCommits: laid · TraceNil: laid.
  DERIVED. THE GIVEN ROWS OF THIS SEAT. 3 by the template 'for every input the law returns true; each argument reads behind the call as it read before'; 0 by the template 'total and deterministic' (their statements: YtcnfionnnpnplaaGreatDoorTotals.lean).
  GIVEN WITH THE SEED: the statements are not yours to turn. If you find one false, say at which input.
  Laid BY PROGRAM, IN A SANDBOX (cutbox-rows.mjs): the forced cells as the released guide's own fill.sh prints them over the translation 1e8ee508233e6c06… (all of the seat's roots in one cut). By AI agents, Wed Nov 11 2026. No macro, syntax, notation, axiom, sorry.
-/
import Derived.Test.YtcnfionnnpnplaaGreatDoorChecked
import GoSem.Claim
import GoSem.ClaimJoined
import GoSem.ClaimMapViews
import Derived.JoinedTies
import Derived.KernelRfl
namespace Go.Proofs.YtcnfionnnpnplaaGreatDoor
/- THE CELL 'sum', in the pinned program and in every row, IS THE sha256 OF THE DUMP (.gsa) THAT YtcnfionnnpnplaaGreatDoorProg.lean LOADS. Nothing in Lean hashes anything: it is a label: what it is worth is what the hold of that sum in a sandbox is worth. -/
noncomputable def Tryz.pinned : Pinned := { name := "ytcnfionnnpnplaagreatdoor", sum := "1e8ee508233e6c0601633ca35890beb4bcde5dff6f202ffae33345fc85bc181a", checked := Tryz.checked }
namespace Rows
def none {H : Type} : Left H := { results := [], args := [] }

/- WHAT THE LISTED PACKAGE-LEVEL VARIABLES READ AS WHEN THE CALL BEGINS. Each datum BY PROGRAM (the guide's laid-datum.mjs) off the statement by which the dump's own 'gosem.cut.vars' lays the variable. In a bare row this is a premise. The card (YtcnfionnnpnplaaGreatDoorCards.lean) ties it to the program's text. -/
def laid_boomerang_code_table {H : Type} : DataW H := .agg [.agg [.agg [.lit (.string []), .lit (.int .i64 0)], .agg [.lit (.int .i64 0), .lit (.int .i64 0), .lit (.int .i64 0), .lit (.int .i64 0)]], .agg [.agg [.lit (.string [115, 101, 116]), .lit (.int .i64 2)], .agg [.lit (.int .i64 1), .lit (.int .i64 2), .lit (.int .i64 0), .lit (.int .i64 0)]], .agg [.agg [.lit (.string [109, 111, 118, 101]), .lit (.int .i64 2)], .agg [.lit (.int .i64 1), .lit (.int .i64 1), .lit (.int .i64 0), .lit (.int .i64 0)]], .agg [.agg [.lit (.string [97, 100, 100]), .lit (.int .i64 3)], .agg [.lit (.int .i64 1), .lit (.int .i64 1), .lit (.int .i64 1), .lit (.int .i64 0)]], .agg [.agg [.lit (.string [115, 117, 98]), .lit (.int .i64 3)], .agg [.lit (.int .i64 1), .lit (.int .i64 1), .lit (.int .i64 1), .lit (.int .i64 0)]], .agg [.agg [.lit (.string [109, 117, 108]), .lit (.int .i64 3)], .agg [.lit (.int .i64 1), .lit (.int .i64 1), .lit (.int .i64 1), .lit (.int .i64 0)]], .agg [.agg [.lit (.string [109, 111, 100]), .lit (.int .i64 3)], .agg [.lit (.int .i64 1), .lit (.int .i64 1), .lit (.int .i64 1), .lit (.int .i64 0)]], .agg [.agg [.lit (.string [108, 101, 115, 115]), .lit (.int .i64 3)], .agg [.lit (.int .i64 1), .lit (.int .i64 1), .lit (.int .i64 1), .lit (.int .i64 0)]], .agg [.agg [.lit (.string [106, 117, 109, 112]), .lit (.int .i64 1)], .agg [.lit (.int .i64 3), .lit (.int .i64 0), .lit (.int .i64 0), .lit (.int .i64 0)]], .agg [.agg [.lit (.string [122, 101, 114, 111]), .lit (.int .i64 2)], .agg [.lit (.int .i64 1), .lit (.int .i64 3), .lit (.int .i64 0), .lit (.int .i64 0)]], .agg [.agg [.lit (.string [110, 111, 119]), .lit (.int .i64 1)], .agg [.lit (.int .i64 1), .lit (.int .i64 0), .lit (.int .i64 0), .lit (.int .i64 0)]], .agg [.agg [.lit (.string [107, 105, 110, 100]), .lit (.int .i64 1)], .agg [.lit (.int .i64 1), .lit (.int .i64 0), .lit (.int .i64 0), .lit (.int .i64 0)]], .agg [.agg [.lit (.string [100, 97, 116, 97]), .lit (.int .i64 1)], .agg [.lit (.int .i64 1), .lit (.int .i64 0), .lit (.int .i64 0), .lit (.int .i64 0)]], .agg [.agg [.lit (.string [115, 101, 108, 102]), .lit (.int .i64 1)], .agg [.lit (.int .i64 1), .lit (.int .i64 0), .lit (.int .i64 0), .lit (.int .i64 0)]], .agg [.agg [.lit (.string [115, 101, 110, 100]), .lit (.int .i64 4)], .agg [.lit (.int .i64 1), .lit (.int .i64 1), .lit (.int .i64 1), .lit (.int .i64 4)]], .agg [.agg [.lit (.string [115, 116, 111, 112]), .lit (.int .i64 0)], .agg [.lit (.int .i64 0), .lit (.int .i64 0), .lit (.int .i64 0), .lit (.int .i64 0)]]]

/-- 'boomeranglaw20.TraceParts': WHATEVER THE INPUT: true; the input reads as it did. -/
def tracePartsSpec : ChangeSpec := { name := "traceParts", fn := fun _ => fun
  | [d1, d2, d3] => { results := [.lit (.bool true)], args := [d1, d2, d3] }
  | _ => none }
def tracePartsRow : OpenClaim := { program := "ytcnfionnnpnplaagreatdoor", sum := "1e8ee508233e6c0601633ca35890beb4bcde5dff6f202ffae33345fc85bc181a", func := "boomerang/boomeranglaw20.TraceParts", spec := "traceParts", unfollowed := true, recurses := true, named := ["boomerang/code.table"], plainKeys := false, apart := false, laid := [("boomerang/code.table", laid_boomerang_code_table)] }
def TracePartsSaid : Prop := tracePartsRow.holds Tryz.pinned (OpenSpec.ofChange tracePartsSpec)

/-- ITS FALSE NEIGHBOUR: 'it returns false'. Refute it at one input. -/
def tracePartsWrong : ChangeSpec := { name := "traceParts", fn := fun _ => fun
  | [d1, d2, d3] => { results := [.lit (.bool false)], args := [d1, d2, d3] }
  | _ => none }
def TracePartsWrongFalsely : Prop := tracePartsRow.holds Tryz.pinned (OpenSpec.ofChange tracePartsWrong)

/-- 'boomeranglaw20.TraceCommits': WHATEVER THE INPUT: true; the input reads as it did. -/
def traceCommitsSpec : ChangeSpec := { name := "traceCommits", fn := fun _ => fun
  | [d1, d2, d3] => { results := [.lit (.bool true)], args := [d1, d2, d3] }
  | _ => none }
def traceCommitsRow : OpenClaim := { program := "ytcnfionnnpnplaagreatdoor", sum := "1e8ee508233e6c0601633ca35890beb4bcde5dff6f202ffae33345fc85bc181a", func := "boomerang/boomeranglaw20.TraceCommits", spec := "traceCommits", unfollowed := true, recurses := true, named := ["boomerang/code.table"], plainKeys := false, apart := false, laid := [("boomerang/code.table", laid_boomerang_code_table)] }
def TraceCommitsSaid : Prop := traceCommitsRow.holds Tryz.pinned (OpenSpec.ofChange traceCommitsSpec)

/-- ITS FALSE NEIGHBOUR: 'it returns false'. Refute it at one input. -/
def traceCommitsWrong : ChangeSpec := { name := "traceCommits", fn := fun _ => fun
  | [d1, d2, d3] => { results := [.lit (.bool false)], args := [d1, d2, d3] }
  | _ => none }
def TraceCommitsWrongFalsely : Prop := traceCommitsRow.holds Tryz.pinned (OpenSpec.ofChange traceCommitsWrong)

/-- 'boomeranglaw20.TraceNil': WHATEVER THE INPUT: true; the input reads as it did. -/
def traceNilSpec : ChangeSpec := { name := "traceNil", fn := fun _ => fun
  | [d1, d2, d3] => { results := [.lit (.bool true)], args := [d1, d2, d3] }
  | _ => none }
def traceNilRow : OpenClaim := { program := "ytcnfionnnpnplaagreatdoor", sum := "1e8ee508233e6c0601633ca35890beb4bcde5dff6f202ffae33345fc85bc181a", func := "boomerang/boomeranglaw20.TraceNil", spec := "traceNil", unfollowed := true, recurses := true, named := ["boomerang/code.table"], plainKeys := false, apart := false, laid := [("boomerang/code.table", laid_boomerang_code_table)] }
def TraceNilSaid : Prop := traceNilRow.holds Tryz.pinned (OpenSpec.ofChange traceNilSpec)

/-- ITS FALSE NEIGHBOUR: 'it returns false'. Refute it at one input. -/
def traceNilWrong : ChangeSpec := { name := "traceNil", fn := fun _ => fun
  | [d1, d2, d3] => { results := [.lit (.bool false)], args := [d1, d2, d3] }
  | _ => none }
def TraceNilWrongFalsely : Prop := traceNilRow.holds Tryz.pinned (OpenSpec.ofChange traceNilWrong)

/- THE SECOND FORM. 'bulk': how many values and letters a reading holds, each counted each time it is reached (what is shared counts as often as it is met; a slice's spare places count too). A statement '..UptoSaid' is the law's where the arguments, and the package variables that the reading takes, are together of bulk at most 1048576: NARROWER than '..Said'. Prove '..Said' where nothing that the law and all that it calls make is longer than what came in: it says more and counts as full. Else prove '..UptoSaid'. A law counts once. -/
mutual
def uptoBulk {H : Type} : DataW H → Nat
  | .lit (.string bytes) => bytes.length + 1
  | .lit _ => 1
  | .nil => 1
  | .ptr d => uptoBulk d + 1
  | .slice elems spare => uptoBulkAll elems + uptoBulkAll spare + 1
  | .agg parts => uptoBulkAll parts + 1
  | .iface _ d => uptoBulk d + 1
  | .map entries => uptoBulkEntries entries + 1
  | .held _ => 1
def uptoBulkAll {H : Type} : List (DataW H) → Nat
  | [] => 0
  | d :: r => uptoBulk d + uptoBulkAll r
def uptoBulkEntries {H : Type} : List (Lit × DataW H) → Nat
  | [] => 0
  | x :: r => uptoBulkEntry x + uptoBulkEntries r
def uptoBulkEntry {H : Type} : Lit × DataW H → Nat
  | (.string bytes, d) => bytes.length + uptoBulk d + 1
  | (_, d) => uptoBulk d + 1
 end
def uptoSmall : (H : Type) → List (DataW H) → Bool := fun _ ds => decide (uptoBulkAll ds ≤ 1048576)
def OpenSpec.upto (s : _root_.Go.ChangeSpec) : _root_.Go.OpenSpec := { _root_.Go.OpenSpec.ofChange s with cond := some uptoSmall }

/-- 'boomeranglaw20.TraceParts', WHERE WHAT IT READS IS OF BULK AT MOST 1048576: true; the input reads as it did. -/
def tracePartsUptoRow : OpenClaim := { program := "ytcnfionnnpnplaagreatdoor", sum := "1e8ee508233e6c0601633ca35890beb4bcde5dff6f202ffae33345fc85bc181a", func := "boomerang/boomeranglaw20.TraceParts", spec := "traceParts", unfollowed := true, recurses := true, named := ["boomerang/code.table"], plainKeys := false, apart := false, laid := [("boomerang/code.table", laid_boomerang_code_table)], narrowed := true }
def TracePartsUptoSaid : Prop := tracePartsUptoRow.holds Tryz.pinned (OpenSpec.upto tracePartsSpec)

/-- 'boomeranglaw20.TraceCommits', WHERE WHAT IT READS IS OF BULK AT MOST 1048576: true; the input reads as it did. -/
def traceCommitsUptoRow : OpenClaim := { program := "ytcnfionnnpnplaagreatdoor", sum := "1e8ee508233e6c0601633ca35890beb4bcde5dff6f202ffae33345fc85bc181a", func := "boomerang/boomeranglaw20.TraceCommits", spec := "traceCommits", unfollowed := true, recurses := true, named := ["boomerang/code.table"], plainKeys := false, apart := false, laid := [("boomerang/code.table", laid_boomerang_code_table)], narrowed := true }
def TraceCommitsUptoSaid : Prop := traceCommitsUptoRow.holds Tryz.pinned (OpenSpec.upto traceCommitsSpec)

/-- 'boomeranglaw20.TraceNil', WHERE WHAT IT READS IS OF BULK AT MOST 1048576: true; the input reads as it did. -/
def traceNilUptoRow : OpenClaim := { program := "ytcnfionnnpnplaagreatdoor", sum := "1e8ee508233e6c0601633ca35890beb4bcde5dff6f202ffae33345fc85bc181a", func := "boomerang/boomeranglaw20.TraceNil", spec := "traceNil", unfollowed := true, recurses := true, named := ["boomerang/code.table"], plainKeys := false, apart := false, laid := [("boomerang/code.table", laid_boomerang_code_table)], narrowed := true }
def TraceNilUptoSaid : Prop := traceNilUptoRow.holds Tryz.pinned (OpenSpec.upto traceNilSpec)

end Rows
end Go.Proofs.YtcnfionnnpnplaaGreatDoor

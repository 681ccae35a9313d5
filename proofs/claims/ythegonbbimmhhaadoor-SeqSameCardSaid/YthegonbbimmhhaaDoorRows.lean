/-
  NARROWER THAN 'FOR EVERY INPUT', by the rows' own cells (each row's printed sentence says how): SeqBatches: laid · SeqSame: laid.
  DERIVED. THE GIVEN ROWS OF THIS SEAT. 2 by the template 'for every input the law returns true; each argument reads behind the call as it read before'; 0 by the template 'total and deterministic' (their statements: YthegonbbimmhhaaDoorTotals.lean).
  GIVEN WITH THE SEED: the statements are not yours to turn. If you find one false, say at which input.
  Laid BY PROGRAM, IN A SANDBOX (cutbox-rows.mjs): the forced cells as the released guide's own fill.sh prints them over the translation 43bf7c7cdaa26860… (all of the seat's roots in one cut). By AI agents, Wed Nov 11 2026. No macro, syntax, notation, axiom, sorry.
-/
import Derived.Test.YthegonbbimmhhaaDoorChecked
import GoSem.Claim
import GoSem.ClaimJoined
import GoSem.ClaimMapViews
import Derived.JoinedTies
import Derived.KernelRfl
namespace Go.Proofs.YthegonbbimmhhaaDoor
/- THE CELL 'sum', in the pinned program and in every row, IS THE sha256 OF THE DUMP (.gsa) THAT YthegonbbimmhhaaDoorProg.lean LOADS. Nothing in Lean hashes anything: it is a label: what it is worth is what the hold of that sum in a sandbox is worth. -/
noncomputable def Tryd.pinned : Pinned := { name := "ythegonbbimmhhaadoor", sum := "43bf7c7cdaa268601167596cd19d27f488df20a8a9afb25dfd72b990458f104b", checked := Tryd.checked }
namespace Rows
def none {H : Type} : Left H := { results := [], args := [] }

/- WHAT THE LISTED PACKAGE-LEVEL VARIABLES READ AS WHEN THE CALL BEGINS. Each datum BY PROGRAM (the guide's laid-datum.mjs) off the statement by which the dump's own 'gosem.cut.vars' lays the variable. In a bare row this is a premise. The card (YthegonbbimmhhaaDoorCards.lean) ties it to the program's text. -/
def laid_boomerang_code_table {H : Type} : DataW H := .agg [.agg [.agg [.lit (.string []), .lit (.int .i64 0)], .agg [.lit (.int .i64 0), .lit (.int .i64 0), .lit (.int .i64 0), .lit (.int .i64 0)]], .agg [.agg [.lit (.string [115, 101, 116]), .lit (.int .i64 2)], .agg [.lit (.int .i64 1), .lit (.int .i64 2), .lit (.int .i64 0), .lit (.int .i64 0)]], .agg [.agg [.lit (.string [109, 111, 118, 101]), .lit (.int .i64 2)], .agg [.lit (.int .i64 1), .lit (.int .i64 1), .lit (.int .i64 0), .lit (.int .i64 0)]], .agg [.agg [.lit (.string [97, 100, 100]), .lit (.int .i64 3)], .agg [.lit (.int .i64 1), .lit (.int .i64 1), .lit (.int .i64 1), .lit (.int .i64 0)]], .agg [.agg [.lit (.string [115, 117, 98]), .lit (.int .i64 3)], .agg [.lit (.int .i64 1), .lit (.int .i64 1), .lit (.int .i64 1), .lit (.int .i64 0)]], .agg [.agg [.lit (.string [109, 117, 108]), .lit (.int .i64 3)], .agg [.lit (.int .i64 1), .lit (.int .i64 1), .lit (.int .i64 1), .lit (.int .i64 0)]], .agg [.agg [.lit (.string [109, 111, 100]), .lit (.int .i64 3)], .agg [.lit (.int .i64 1), .lit (.int .i64 1), .lit (.int .i64 1), .lit (.int .i64 0)]], .agg [.agg [.lit (.string [108, 101, 115, 115]), .lit (.int .i64 3)], .agg [.lit (.int .i64 1), .lit (.int .i64 1), .lit (.int .i64 1), .lit (.int .i64 0)]], .agg [.agg [.lit (.string [106, 117, 109, 112]), .lit (.int .i64 1)], .agg [.lit (.int .i64 3), .lit (.int .i64 0), .lit (.int .i64 0), .lit (.int .i64 0)]], .agg [.agg [.lit (.string [122, 101, 114, 111]), .lit (.int .i64 2)], .agg [.lit (.int .i64 1), .lit (.int .i64 3), .lit (.int .i64 0), .lit (.int .i64 0)]], .agg [.agg [.lit (.string [110, 111, 119]), .lit (.int .i64 1)], .agg [.lit (.int .i64 1), .lit (.int .i64 0), .lit (.int .i64 0), .lit (.int .i64 0)]], .agg [.agg [.lit (.string [107, 105, 110, 100]), .lit (.int .i64 1)], .agg [.lit (.int .i64 1), .lit (.int .i64 0), .lit (.int .i64 0), .lit (.int .i64 0)]], .agg [.agg [.lit (.string [100, 97, 116, 97]), .lit (.int .i64 1)], .agg [.lit (.int .i64 1), .lit (.int .i64 0), .lit (.int .i64 0), .lit (.int .i64 0)]], .agg [.agg [.lit (.string [115, 101, 108, 102]), .lit (.int .i64 1)], .agg [.lit (.int .i64 1), .lit (.int .i64 0), .lit (.int .i64 0), .lit (.int .i64 0)]], .agg [.agg [.lit (.string [115, 101, 110, 100]), .lit (.int .i64 4)], .agg [.lit (.int .i64 1), .lit (.int .i64 1), .lit (.int .i64 1), .lit (.int .i64 4)]], .agg [.agg [.lit (.string [115, 116, 111, 112]), .lit (.int .i64 0)], .agg [.lit (.int .i64 0), .lit (.int .i64 0), .lit (.int .i64 0), .lit (.int .i64 0)]]]

/-- 'boomeranglaw09.SeqBatches': WHATEVER THE INPUT: true; the input reads as it did. -/
def seqBatchesSpec : ChangeSpec := { name := "seqBatches", fn := fun _ => fun
  | [d] => { results := [.lit (.bool true)], args := [d] }
  | _ => none }
def seqBatchesRow : OpenClaim := { program := "ythegonbbimmhhaadoor", sum := "43bf7c7cdaa268601167596cd19d27f488df20a8a9afb25dfd72b990458f104b", func := "boomerang/boomeranglaw09.SeqBatches", spec := "seqBatches", unfollowed := true, recurses := true, named := ["boomerang/code.table"], plainKeys := false, apart := false, laid := [("boomerang/code.table", laid_boomerang_code_table)] }
def SeqBatchesSaid : Prop := seqBatchesRow.holds Tryd.pinned (OpenSpec.ofChange seqBatchesSpec)

/-- ITS FALSE NEIGHBOUR: 'it returns false'. Refute it at one input. -/
def seqBatchesWrong : ChangeSpec := { name := "seqBatches", fn := fun _ => fun
  | [d] => { results := [.lit (.bool false)], args := [d] }
  | _ => none }
def SeqBatchesWrongFalsely : Prop := seqBatchesRow.holds Tryd.pinned (OpenSpec.ofChange seqBatchesWrong)

/-- 'boomeranglaw09.SeqSame': WHATEVER THE INPUT: true; the input reads as it did. -/
def seqSameSpec : ChangeSpec := { name := "seqSame", fn := fun _ => fun
  | [d1, d2] => { results := [.lit (.bool true)], args := [d1, d2] }
  | _ => none }
def seqSameRow : OpenClaim := { program := "ythegonbbimmhhaadoor", sum := "43bf7c7cdaa268601167596cd19d27f488df20a8a9afb25dfd72b990458f104b", func := "boomerang/boomeranglaw09.SeqSame", spec := "seqSame", unfollowed := true, recurses := true, named := ["boomerang/code.table"], plainKeys := false, apart := false, laid := [("boomerang/code.table", laid_boomerang_code_table)] }
def SeqSameSaid : Prop := seqSameRow.holds Tryd.pinned (OpenSpec.ofChange seqSameSpec)

/-- ITS FALSE NEIGHBOUR: 'it returns false'. Refute it at one input. -/
def seqSameWrong : ChangeSpec := { name := "seqSame", fn := fun _ => fun
  | [d1, d2] => { results := [.lit (.bool false)], args := [d1, d2] }
  | _ => none }
def SeqSameWrongFalsely : Prop := seqSameRow.holds Tryd.pinned (OpenSpec.ofChange seqSameWrong)

/- THE SECOND FORM. 'bulk': how many values and letters a reading holds, each counted each time it is reached (what is shared counts as often as it is met; a slice's spare places count too). A statement '..UptoSaid' is the law's where the arguments, and the package variables that the reading takes, are together of bulk at most 1048576: NARROWER than '..Said'. Prove '..Said' where nothing that the law and all that it calls make is longer than what came in: it says more and counts as full. Else prove '..UptoSaid'. A law counts once. -/
mutual
def uptoBulk {H : Type} : DataW H → Nat
  | .lit (.string bytes) => bytes.length + 1
  | .lit _ => 1
  | .nil => 1
  | .ptr d => uptoBulk d + 1
  | .slice elems spare => uptoBulkAll elems + uptoBulkAll spare + 1
  | .agg parts => uptoBulkAll parts + 1
  | .iface _ d => uptoBulk d + 1
  | .map entries => uptoBulkEntries entries + 1
  | .held _ => 1
def uptoBulkAll {H : Type} : List (DataW H) → Nat
  | [] => 0
  | d :: r => uptoBulk d + uptoBulkAll r
def uptoBulkEntries {H : Type} : List (Lit × DataW H) → Nat
  | [] => 0
  | x :: r => uptoBulkEntry x + uptoBulkEntries r
def uptoBulkEntry {H : Type} : Lit × DataW H → Nat
  | (.string bytes, d) => bytes.length + uptoBulk d + 1
  | (_, d) => uptoBulk d + 1
 end
def uptoSmall : (H : Type) → List (DataW H) → Bool := fun _ ds => decide (uptoBulkAll ds ≤ 1048576)
def OpenSpec.upto (s : _root_.Go.ChangeSpec) : _root_.Go.OpenSpec := { _root_.Go.OpenSpec.ofChange s with cond := some uptoSmall }

/-- 'boomeranglaw09.SeqBatches', WHERE WHAT IT READS IS OF BULK AT MOST 1048576: true; the input reads as it did. -/
def seqBatchesUptoRow : OpenClaim := { program := "ythegonbbimmhhaadoor", sum := "43bf7c7cdaa268601167596cd19d27f488df20a8a9afb25dfd72b990458f104b", func := "boomerang/boomeranglaw09.SeqBatches", spec := "seqBatches", unfollowed := true, recurses := true, named := ["boomerang/code.table"], plainKeys := false, apart := false, laid := [("boomerang/code.table", laid_boomerang_code_table)], narrowed := true }
def SeqBatchesUptoSaid : Prop := seqBatchesUptoRow.holds Tryd.pinned (OpenSpec.upto seqBatchesSpec)

/-- 'boomeranglaw09.SeqSame', WHERE WHAT IT READS IS OF BULK AT MOST 1048576: true; the input reads as it did. -/
def seqSameUptoRow : OpenClaim := { program := "ythegonbbimmhhaadoor", sum := "43bf7c7cdaa268601167596cd19d27f488df20a8a9afb25dfd72b990458f104b", func := "boomerang/boomeranglaw09.SeqSame", spec := "seqSame", unfollowed := true, recurses := true, named := ["boomerang/code.table"], plainKeys := false, apart := false, laid := [("boomerang/code.table", laid_boomerang_code_table)], narrowed := true }
def SeqSameUptoSaid : Prop := seqSameUptoRow.holds Tryd.pinned (OpenSpec.upto seqSameSpec)

end Rows
end Go.Proofs.YthegonbbimmhhaaDoor

/-
  NARROWER THAN 'FOR EVERY INPUT', by the rows' own cells (each row's printed sentence says how): SeqOrder: laid · SeqSteps: laid · SeqUntil: laid · SeqCounts: laid · SeqNil: laid · SeqParts: laid.
  DERIVED. THE GIVEN ROWS OF THIS SEAT. 6 by the template 'for every input the law returns true; each argument reads behind the call as it read before'; 0 by the template 'total and deterministic' (their statements: YthegonbbimmhhaaGreatDoorTotals.lean).
  GIVEN WITH THE SEED: the statements are not yours to turn. If you find one false, say at which input.
  Laid BY PROGRAM, IN A SANDBOX (cutbox-rows.mjs): the forced cells as the released guide's own fill.sh prints them over the translation d1c57ad55f0e5f6f… (all of the seat's roots in one cut). By AI agents, Wed Nov 11 2026. No macro, syntax, notation, axiom, sorry.
-/
import Derived.Test.YthegonbbimmhhaaGreatDoorChecked
import GoSem.Claim
import GoSem.ClaimJoined
import GoSem.ClaimMapViews
import Derived.JoinedTies
import Derived.KernelRfl
namespace Go.Proofs.YthegonbbimmhhaaGreatDoor
/- THE CELL 'sum', in the pinned program and in every row, IS THE sha256 OF THE DUMP (.gsa) THAT YthegonbbimmhhaaGreatDoorProg.lean LOADS. Nothing in Lean hashes anything: it is a label: what it is worth is what the hold of that sum in a sandbox is worth. -/
noncomputable def Tryz.pinned : Pinned := { name := "ythegonbbimmhhaagreatdoor", sum := "d1c57ad55f0e5f6f9ea435e8c16865a0801385ed349f61cbc3806d49d9385c96", checked := Tryz.checked }
namespace Rows
def none {H : Type} : Left H := { results := [], args := [] }

/- WHAT THE LISTED PACKAGE-LEVEL VARIABLES READ AS WHEN THE CALL BEGINS. Each datum BY PROGRAM (the guide's laid-datum.mjs) off the statement by which the dump's own 'gosem.cut.vars' lays the variable. In a bare row this is a premise. The card (YthegonbbimmhhaaGreatDoorCards.lean) ties it to the program's text. -/
def laid_boomerang_code_table {H : Type} : DataW H := .agg [.agg [.agg [.lit (.string []), .lit (.int .i64 0)], .agg [.lit (.int .i64 0), .lit (.int .i64 0), .lit (.int .i64 0), .lit (.int .i64 0)]], .agg [.agg [.lit (.string [115, 101, 116]), .lit (.int .i64 2)], .agg [.lit (.int .i64 1), .lit (.int .i64 2), .lit (.int .i64 0), .lit (.int .i64 0)]], .agg [.agg [.lit (.string [109, 111, 118, 101]), .lit (.int .i64 2)], .agg [.lit (.int .i64 1), .lit (.int .i64 1), .lit (.int .i64 0), .lit (.int .i64 0)]], .agg [.agg [.lit (.string [97, 100, 100]), .lit (.int .i64 3)], .agg [.lit (.int .i64 1), .lit (.int .i64 1), .lit (.int .i64 1), .lit (.int .i64 0)]], .agg [.agg [.lit (.string [115, 117, 98]), .lit (.int .i64 3)], .agg [.lit (.int .i64 1), .lit (.int .i64 1), .lit (.int .i64 1), .lit (.int .i64 0)]], .agg [.agg [.lit (.string [109, 117, 108]), .lit (.int .i64 3)], .agg [.lit (.int .i64 1), .lit (.int .i64 1), .lit (.int .i64 1), .lit (.int .i64 0)]], .agg [.agg [.lit (.string [109, 111, 100]), .lit (.int .i64 3)], .agg [.lit (.int .i64 1), .lit (.int .i64 1), .lit (.int .i64 1), .lit (.int .i64 0)]], .agg [.agg [.lit (.string [108, 101, 115, 115]), .lit (.int .i64 3)], .agg [.lit (.int .i64 1), .lit (.int .i64 1), .lit (.int .i64 1), .lit (.int .i64 0)]], .agg [.agg [.lit (.string [106, 117, 109, 112]), .lit (.int .i64 1)], .agg [.lit (.int .i64 3), .lit (.int .i64 0), .lit (.int .i64 0), .lit (.int .i64 0)]], .agg [.agg [.lit (.string [122, 101, 114, 111]), .lit (.int .i64 2)], .agg [.lit (.int .i64 1), .lit (.int .i64 3), .lit (.int .i64 0), .lit (.int .i64 0)]], .agg [.agg [.lit (.string [110, 111, 119]), .lit (.int .i64 1)], .agg [.lit (.int .i64 1), .lit (.int .i64 0), .lit (.int .i64 0), .lit (.int .i64 0)]], .agg [.agg [.lit (.string [107, 105, 110, 100]), .lit (.int .i64 1)], .agg [.lit (.int .i64 1), .lit (.int .i64 0), .lit (.int .i64 0), .lit (.int .i64 0)]], .agg [.agg [.lit (.string [100, 97, 116, 97]), .lit (.int .i64 1)], .agg [.lit (.int .i64 1), .lit (.int .i64 0), .lit (.int .i64 0), .lit (.int .i64 0)]], .agg [.agg [.lit (.string [115, 101, 108, 102]), .lit (.int .i64 1)], .agg [.lit (.int .i64 1), .lit (.int .i64 0), .lit (.int .i64 0), .lit (.int .i64 0)]], .agg [.agg [.lit (.string [115, 101, 110, 100]), .lit (.int .i64 4)], .agg [.lit (.int .i64 1), .lit (.int .i64 1), .lit (.int .i64 1), .lit (.int .i64 4)]], .agg [.agg [.lit (.string [115, 116, 111, 112]), .lit (.int .i64 0)], .agg [.lit (.int .i64 0), .lit (.int .i64 0), .lit (.int .i64 0), .lit (.int .i64 0)]]]

/-- 'boomeranglaw09.SeqOrder': WHATEVER THE INPUT: true; the input reads as it did. -/
def seqOrderSpec : ChangeSpec := { name := "seqOrder", fn := fun _ => fun
  | [d] => { results := [.lit (.bool true)], args := [d] }
  | _ => none }
def seqOrderRow : OpenClaim := { program := "ythegonbbimmhhaagreatdoor", sum := "d1c57ad55f0e5f6f9ea435e8c16865a0801385ed349f61cbc3806d49d9385c96", func := "boomerang/boomeranglaw09.SeqOrder", spec := "seqOrder", unfollowed := true, recurses := true, named := ["boomerang/code.table"], plainKeys := false, apart := false, laid := [("boomerang/code.table", laid_boomerang_code_table)] }
def SeqOrderSaid : Prop := seqOrderRow.holds Tryz.pinned (OpenSpec.ofChange seqOrderSpec)

/-- ITS FALSE NEIGHBOUR: 'it returns false'. Refute it at one input. -/
def seqOrderWrong : ChangeSpec := { name := "seqOrder", fn := fun _ => fun
  | [d] => { results := [.lit (.bool false)], args := [d] }
  | _ => none }
def SeqOrderWrongFalsely : Prop := seqOrderRow.holds Tryz.pinned (OpenSpec.ofChange seqOrderWrong)

/-- 'boomeranglaw09.SeqSteps': WHATEVER THE INPUT: true; the input reads as it did. -/
def seqStepsSpec : ChangeSpec := { name := "seqSteps", fn := fun _ => fun
  | [d] => { results := [.lit (.bool true)], args := [d] }
  | _ => none }
def seqStepsRow : OpenClaim := { program := "ythegonbbimmhhaagreatdoor", sum := "d1c57ad55f0e5f6f9ea435e8c16865a0801385ed349f61cbc3806d49d9385c96", func := "boomerang/boomeranglaw09.SeqSteps", spec := "seqSteps", unfollowed := true, recurses := true, named := ["boomerang/code.table"], plainKeys := false, apart := false, laid := [("boomerang/code.table", laid_boomerang_code_table)] }
def SeqStepsSaid : Prop := seqStepsRow.holds Tryz.pinned (OpenSpec.ofChange seqStepsSpec)

/-- ITS FALSE NEIGHBOUR: 'it returns false'. Refute it at one input. -/
def seqStepsWrong : ChangeSpec := { name := "seqSteps", fn := fun _ => fun
  | [d] => { results := [.lit (.bool false)], args := [d] }
  | _ => none }
def SeqStepsWrongFalsely : Prop := seqStepsRow.holds Tryz.pinned (OpenSpec.ofChange seqStepsWrong)

/-- 'boomeranglaw09.SeqUntil': WHATEVER THE INPUT: true; the input reads as it did. -/
def seqUntilSpec : ChangeSpec := { name := "seqUntil", fn := fun _ => fun
  | [d1, d2, d3] => { results := [.lit (.bool true)], args := [d1, d2, d3] }
  | _ => none }
def seqUntilRow : OpenClaim := { program := "ythegonbbimmhhaagreatdoor", sum := "d1c57ad55f0e5f6f9ea435e8c16865a0801385ed349f61cbc3806d49d9385c96", func := "boomerang/boomeranglaw09.SeqUntil", spec := "seqUntil", unfollowed := true, recurses := true, named := ["boomerang/code.table"], plainKeys := false, apart := false, laid := [("boomerang/code.table", laid_boomerang_code_table)] }
def SeqUntilSaid : Prop := seqUntilRow.holds Tryz.pinned (OpenSpec.ofChange seqUntilSpec)

/-- ITS FALSE NEIGHBOUR: 'it returns false'. Refute it at one input. -/
def seqUntilWrong : ChangeSpec := { name := "seqUntil", fn := fun _ => fun
  | [d1, d2, d3] => { results := [.lit (.bool false)], args := [d1, d2, d3] }
  | _ => none }
def SeqUntilWrongFalsely : Prop := seqUntilRow.holds Tryz.pinned (OpenSpec.ofChange seqUntilWrong)

/-- 'boomeranglaw09.SeqCounts': WHATEVER THE INPUT: true; the input reads as it did. -/
def seqCountsSpec : ChangeSpec := { name := "seqCounts", fn := fun _ => fun
  | [d] => { results := [.lit (.bool true)], args := [d] }
  | _ => none }
def seqCountsRow : OpenClaim := { program := "ythegonbbimmhhaagreatdoor", sum := "d1c57ad55f0e5f6f9ea435e8c16865a0801385ed349f61cbc3806d49d9385c96", func := "boomerang/boomeranglaw09.SeqCounts", spec := "seqCounts", unfollowed := true, recurses := true, named := ["boomerang/code.table"], plainKeys := false, apart := false, laid := [("boomerang/code.table", laid_boomerang_code_table)] }
def SeqCountsSaid : Prop := seqCountsRow.holds Tryz.pinned (OpenSpec.ofChange seqCountsSpec)

/-- ITS FALSE NEIGHBOUR: 'it returns false'. Refute it at one input. -/
def seqCountsWrong : ChangeSpec := { name := "seqCounts", fn := fun _ => fun
  | [d] => { results := [.lit (.bool false)], args := [d] }
  | _ => none }
def SeqCountsWrongFalsely : Prop := seqCountsRow.holds Tryz.pinned (OpenSpec.ofChange seqCountsWrong)

/-- 'boomeranglaw09.SeqNil': WHATEVER THE INPUT: true; the input reads as it did. -/
def seqNilSpec : ChangeSpec := { name := "seqNil", fn := fun _ => fun
  | [d1, d2] => { results := [.lit (.bool true)], args := [d1, d2] }
  | _ => none }
def seqNilRow : OpenClaim := { program := "ythegonbbimmhhaagreatdoor", sum := "d1c57ad55f0e5f6f9ea435e8c16865a0801385ed349f61cbc3806d49d9385c96", func := "boomerang/boomeranglaw09.SeqNil", spec := "seqNil", inPlace := ["maps.clone"], unfollowed := true, recurses := true, named := ["boomerang/code.table"], plainKeys := false, apart := false, laid := [("boomerang/code.table", laid_boomerang_code_table)] }
def SeqNilSaid : Prop := seqNilRow.holds Tryz.pinned (OpenSpec.ofChange seqNilSpec)

/-- ITS FALSE NEIGHBOUR: 'it returns false'. Refute it at one input. -/
def seqNilWrong : ChangeSpec := { name := "seqNil", fn := fun _ => fun
  | [d1, d2] => { results := [.lit (.bool false)], args := [d1, d2] }
  | _ => none }
def SeqNilWrongFalsely : Prop := seqNilRow.holds Tryz.pinned (OpenSpec.ofChange seqNilWrong)

/-- 'boomeranglaw09.SeqParts': WHATEVER THE INPUT: true; the input reads as it did. -/
def seqPartsSpec : ChangeSpec := { name := "seqParts", fn := fun _ => fun
  | [d1, d2] => { results := [.lit (.bool true)], args := [d1, d2] }
  | _ => none }
def seqPartsRow : OpenClaim := { program := "ythegonbbimmhhaagreatdoor", sum := "d1c57ad55f0e5f6f9ea435e8c16865a0801385ed349f61cbc3806d49d9385c96", func := "boomerang/boomeranglaw09.SeqParts", spec := "seqParts", inPlace := ["maps.clone"], unfollowed := true, recurses := true, named := ["boomerang/code.table"], plainKeys := false, apart := false, laid := [("boomerang/code.table", laid_boomerang_code_table)] }
def SeqPartsSaid : Prop := seqPartsRow.holds Tryz.pinned (OpenSpec.ofChange seqPartsSpec)

/-- ITS FALSE NEIGHBOUR: 'it returns false'. Refute it at one input. -/
def seqPartsWrong : ChangeSpec := { name := "seqParts", fn := fun _ => fun
  | [d1, d2] => { results := [.lit (.bool false)], args := [d1, d2] }
  | _ => none }
def SeqPartsWrongFalsely : Prop := seqPartsRow.holds Tryz.pinned (OpenSpec.ofChange seqPartsWrong)

/- THE SECOND FORM. 'bulk': how many values and letters a reading holds, each counted each time it is reached (what is shared counts as often as it is met; a slice's spare places count too). A statement '..UptoSaid' is the law's where the arguments, and the package variables that the reading takes, are together of bulk at most 1048576: NARROWER than '..Said'. Prove '..Said' where nothing that the law and all that it calls make is longer than what came in: it says more and counts as full. Else prove '..UptoSaid'. A law counts once. -/
mutual
def uptoBulk {H : Type} : DataW H → Nat
  | .lit (.string bytes) => bytes.length + 1
  | .lit _ => 1
  | .nil => 1
  | .ptr d => uptoBulk d + 1
  | .slice elems spare => uptoBulkAll elems + uptoBulkAll spare + 1
  | .agg parts => uptoBulkAll parts + 1
  | .iface _ d => uptoBulk d + 1
  | .map entries => uptoBulkEntries entries + 1
  | .held _ => 1
def uptoBulkAll {H : Type} : List (DataW H) → Nat
  | [] => 0
  | d :: r => uptoBulk d + uptoBulkAll r
def uptoBulkEntries {H : Type} : List (Lit × DataW H) → Nat
  | [] => 0
  | x :: r => uptoBulkEntry x + uptoBulkEntries r
def uptoBulkEntry {H : Type} : Lit × DataW H → Nat
  | (.string bytes, d) => bytes.length + uptoBulk d + 1
  | (_, d) => uptoBulk d + 1
 end
def uptoSmall : (H : Type) → List (DataW H) → Bool := fun _ ds => decide (uptoBulkAll ds ≤ 1048576)
def OpenSpec.upto (s : _root_.Go.ChangeSpec) : _root_.Go.OpenSpec := { _root_.Go.OpenSpec.ofChange s with cond := some uptoSmall }

/-- 'boomeranglaw09.SeqOrder', WHERE WHAT IT READS IS OF BULK AT MOST 1048576: true; the input reads as it did. -/
def seqOrderUptoRow : OpenClaim := { program := "ythegonbbimmhhaagreatdoor", sum := "d1c57ad55f0e5f6f9ea435e8c16865a0801385ed349f61cbc3806d49d9385c96", func := "boomerang/boomeranglaw09.SeqOrder", spec := "seqOrder", unfollowed := true, recurses := true, named := ["boomerang/code.table"], plainKeys := false, apart := false, laid := [("boomerang/code.table", laid_boomerang_code_table)], narrowed := true }
def SeqOrderUptoSaid : Prop := seqOrderUptoRow.holds Tryz.pinned (OpenSpec.upto seqOrderSpec)

/-- 'boomeranglaw09.SeqSteps', WHERE WHAT IT READS IS OF BULK AT MOST 1048576: true; the input reads as it did. -/
def seqStepsUptoRow : OpenClaim := { program := "ythegonbbimmhhaagreatdoor", sum := "d1c57ad55f0e5f6f9ea435e8c16865a0801385ed349f61cbc3806d49d9385c96", func := "boomerang/boomeranglaw09.SeqSteps", spec := "seqSteps", unfollowed := true, recurses := true, named := ["boomerang/code.table"], plainKeys := false, apart := false, laid := [("boomerang/code.table", laid_boomerang_code_table)], narrowed := true }
def SeqStepsUptoSaid : Prop := seqStepsUptoRow.holds Tryz.pinned (OpenSpec.upto seqStepsSpec)

/-- 'boomeranglaw09.SeqUntil', WHERE WHAT IT READS IS OF BULK AT MOST 1048576: true; the input reads as it did. -/
def seqUntilUptoRow : OpenClaim := { program := "ythegonbbimmhhaagreatdoor", sum := "d1c57ad55f0e5f6f9ea435e8c16865a0801385ed349f61cbc3806d49d9385c96", func := "boomerang/boomeranglaw09.SeqUntil", spec := "seqUntil", unfollowed := true, recurses := true, named := ["boomerang/code.table"], plainKeys := false, apart := false, laid := [("boomerang/code.table", laid_boomerang_code_table)], narrowed := true }
def SeqUntilUptoSaid : Prop := seqUntilUptoRow.holds Tryz.pinned (OpenSpec.upto seqUntilSpec)

/-- 'boomeranglaw09.SeqCounts', WHERE WHAT IT READS IS OF BULK AT MOST 1048576: true; the input reads as it did. -/
def seqCountsUptoRow : OpenClaim := { program := "ythegonbbimmhhaagreatdoor", sum := "d1c57ad55f0e5f6f9ea435e8c16865a0801385ed349f61cbc3806d49d9385c96", func := "boomerang/boomeranglaw09.SeqCounts", spec := "seqCounts", unfollowed := true, recurses := true, named := ["boomerang/code.table"], plainKeys := false, apart := false, laid := [("boomerang/code.table", laid_boomerang_code_table)], narrowed := true }
def SeqCountsUptoSaid : Prop := seqCountsUptoRow.holds Tryz.pinned (OpenSpec.upto seqCountsSpec)

/-- 'boomeranglaw09.SeqNil', WHERE WHAT IT READS IS OF BULK AT MOST 1048576: true; the input reads as it did. -/
def seqNilUptoRow : OpenClaim := { program := "ythegonbbimmhhaagreatdoor", sum := "d1c57ad55f0e5f6f9ea435e8c16865a0801385ed349f61cbc3806d49d9385c96", func := "boomerang/boomeranglaw09.SeqNil", spec := "seqNil", inPlace := ["maps.clone"], unfollowed := true, recurses := true, named := ["boomerang/code.table"], plainKeys := false, apart := false, laid := [("boomerang/code.table", laid_boomerang_code_table)], narrowed := true }
def SeqNilUptoSaid : Prop := seqNilUptoRow.holds Tryz.pinned (OpenSpec.upto seqNilSpec)

/-- 'boomeranglaw09.SeqParts', WHERE WHAT IT READS IS OF BULK AT MOST 1048576: true; the input reads as it did. -/
def seqPartsUptoRow : OpenClaim := { program := "ythegonbbimmhhaagreatdoor", sum := "d1c57ad55f0e5f6f9ea435e8c16865a0801385ed349f61cbc3806d49d9385c96", func := "boomerang/boomeranglaw09.SeqParts", spec := "seqParts", inPlace := ["maps.clone"], unfollowed := true, recurses := true, named := ["boomerang/code.table"], plainKeys := false, apart := false, laid := [("boomerang/code.table", laid_boomerang_code_table)], narrowed := true }
def SeqPartsUptoSaid : Prop := seqPartsUptoRow.holds Tryz.pinned (OpenSpec.upto seqPartsSpec)

end Rows
end Go.Proofs.YthegonbbimmhhaaGreatDoor

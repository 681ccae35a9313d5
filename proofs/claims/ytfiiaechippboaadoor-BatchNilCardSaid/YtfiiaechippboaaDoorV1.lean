import Derived.Test.YtfiiaechippboaaDoorVmP
import Derived.Test.YtfiiaechippboaaDoorC1
/- The walk of vm.reckon. -/
namespace Go.Proofs.YtfiiaechippboaaDoor
open Go Go.RowKit Reg Mem

set_option maxRecDepth 100000 in
theorem reckon_calls (op b c : Int) (hop : 3 ≤ op ∧ op ≤ 7) (w : World) : Calls Tryd.prog 82 #[.int .i64 op, .int .i64 b, .int .i64 c] w fun r w' => r = .returned (.int .i64 (reckonE op b c)) ∧ Below w.heap.size w w' := by
  have S := St.init (fun _ => False) w
  obtain rfl | rfl | rfl | rfl | rfl : op = 3 ∨ op = 4 ∨ op = 5 ∨ op = 6 ∨ op = 7 := by omega
  · skip
    go_enter Tryd.func82, Tryd.ntmps82
    go_wp2_with first
      | ((with_reducible refine tot_done ?ht ?_); (case ht => kernel_rfl))
    go_ret
    exact ⟨ret_int (by simp [reckonE]), S.below⟩
  · skip
    go_enter Tryd.func82, Tryd.ntmps82
    go_wp2_with first
      | ((with_reducible refine tot_done ?ht ?_); (case ht => kernel_rfl))
    go_ret
    exact ⟨ret_int (by simp [reckonE]), S.below⟩
  · skip
    go_enter Tryd.func82, Tryd.ntmps82
    go_wp2_with first
      | ((with_reducible refine tot_done ?ht ?_); (case ht => kernel_rfl))
    go_ret
    exact ⟨ret_int (by simp [reckonE]), S.below⟩
  · by_cases h0 : c = 0
    · subst h0
      go_enter Tryd.func82, Tryd.ntmps82
      go_wp2_with first
        | ((with_reducible refine tot_done ?ht ?_); (case ht => kernel_rfl))
      go_ret
      exact ⟨ret_int (by simp [reckonE]), S.below⟩
    · have h1 : (c != 0) = true := by simpa using h0
      have HR := Lib.hid (show reckonE 6 b c = b.tmod c by simp [reckonE, h0])
      go_enter Tryd.func82, Tryd.ntmps82
      go_wp2_with first
        | ((with_reducible refine tot_done ?ht ?_); (case ht => kernel_rfl))
      go_ret
      exact ⟨ret_int HR.out.symm, S.below⟩
  · by_cases h0 : b < c
    · have HR := Lib.hid (show reckonE 7 b c = 1 by simp [reckonE, h0])
      go_enter Tryd.func82, Tryd.ntmps82
      go_wp2_with first
        | ((with_reducible refine tot_done ?ht ?_); (case ht => kernel_rfl))
      go_ret
      exact ⟨ret_int HR.out.symm, S.below⟩
    · have HR := Lib.hid (show reckonE 7 b c = 0 by simp [reckonE, h0])
      go_enter Tryd.func82, Tryd.ntmps82
      go_wp2_with first
        | ((with_reducible refine tot_done ?ht ?_); (case ht => kernel_rfl))
      go_ret
      exact ⟨ret_int HR.out.symm, S.below⟩
end Go.Proofs.YtfiiaechippboaaDoor

import Derived.Test.YthegonbbimmhhaaGreatDoorR25
/- The walks of a nil simulation's methods, and of the law's SeqNil. -/
namespace Go.Proofs.YthegonbbimmhhaaGreatDoor
open Go Go.RowKit Reg Mem

theorem next_nil (w : World) : Calls Tryz.prog 31 #[.pointer none] w fun e w' => e = .returned (.tuple #[.int .i64 0, .int .i64 0, .bool false]) ∧ Below w.heap.size w w' := by
  have S := St.init (fun _ => False) w
  go_enter Tryz.func31, Tryz.ntmps31
  go_wp2_with first | go_skip | ((with_reducible refine wpList_skip ?hw ?_); (case hw => with_unfolding_all rfl); simp only [Act.put, List.setIfInBounds_toArray, List.set_cons_succ, List.set_cons_zero]) | ((with_reducible refine tot_done ?ht ?_); (case ht => kernel_rfl)) | ((with_reducible apply wps_alloca (E := 50) S); (case hz => exact Tryz.zeroValue50); clear S; intro bz wz S) | ((with_reducible apply wps_alloca (E := 52) S); (case hz => exact Tryz.zeroValue52); clear S; intro bz wz S) | ((with_reducible apply wps_load S 0); (case hx | hi | hu => rfl); (case hT => decide +kernel))
  (try simp only [Exit.inBlock, Exit.then]); refine bodyPost_ret (results3 rfl (res_tmp rfl) (res_tmp rfl) (res_tmp rfl)) rfl ?_
  exact ⟨rfl, S.below⟩
theorem until_nil (t most : Int) (w : World) : Calls Tryz.prog 23 #[.pointer none, .int .i64 t, .int .i64 most] w fun e w' => e = .returned (.tuple #[.slice none 0 0, .int .i64 2]) ∧ Below w.heap.size w w' := by
  have S := St.init (fun _ => False) w
  go_enter Tryz.func23, Tryz.ntmps23
  go_wp2_with first | go_skip | ((with_reducible refine wpList_skip ?hw ?_); (case hw => with_unfolding_all rfl); simp only [Act.put, List.setIfInBounds_toArray, List.set_cons_succ, List.set_cons_zero]) | ((with_reducible refine tot_done ?ht ?_); (case ht => kernel_rfl)) | ((with_reducible apply wps_alloca (E := 45) S); (case hz => exact Tryz.zeroValue45); clear S; intro bz wz S) | ((with_reducible apply wps_loada (T := 45) (k := 8) S 0); (case hx | hi => rfl); (case hk => exact Nat.le_of_ble_eq_true rfl); (case hT => decide +kernel))
  (try simp only [Exit.inBlock, Exit.then]); refine bodyPost_ret (results2 rfl (res_tmp rfl) (res_tmp rfl)) rfl ?_
  exact ⟨rfl, S.below⟩
set_option maxRecDepth 100000 in
theorem step_nil (w : World) : Calls Tryz.prog 13 #[.pointer none] w fun e w' => e = .returned (.tuple #[zeroBatch, .bool false]) ∧ Below w.heap.size w w' := by
  have S := St.init (fun _ => False) w
  go_enter Tryz.func13, Tryz.ntmps13
  go_wp2_with first | (go_at_call 31; refine Calls.mono (next_nil _) ?_; rintro e wz ⟨rfl, hE⟩; replace S := S.ext (Keep.of_below hE); clear hE) | ((with_reducible apply wps_storea (T := 45) S 0 (vs := [.int .i64 0, .int .i64 0, .slice none 0 0, .int .i64 0, .int .i64 0, .int .i64 0, .int .i64 0, .slice none 0 0]) (m := 8)); (case hx | hy | hi | hm | h1 => rfl); (case hn => exact Nat.le_of_ble_eq_true rfl); (case hT => decide +kernel); clear S; intro wz S; simp only [List.set_cons_zero, List.set_cons_succ, setAll, List.setIfInBounds_toArray] at S) | ((with_reducible refine tot_done ?ht ?_); (case ht => kernel_rfl)) | ((with_reducible apply wps_text S); (case hm => kernel_rfl); (case hB => decide +kernel); clear S; intro wz S) | ((with_reducible apply wps_alloca (E := 43) S); (case hz => exact Tryz.zeroValue43); clear S; intro bz wz S) | ((with_reducible apply wps_alloca (E := 45) S); (case hz => exact Tryz.zeroValue45); clear S; intro bz wz S) | ((with_reducible apply wps_load S 0); (case hx | hi | hu => rfl); (case hT => decide +kernel)) | ((with_reducible apply wps_loada (T := 43) (k := 4) S 0); (case hx | hi => rfl); (case hk => exact Nat.le_of_ble_eq_true rfl); (case hT => decide +kernel))
  (try simp only [Exit.inBlock, Exit.then]); refine bodyPost_ret (results2 rfl (S.resA 0 rfl rfl (by kernel_rfl)) (res_tmp rfl)) rfl ?_
  exact ⟨rfl, S.below⟩
theorem states_nil (w : World) : Calls Tryz.prog 30 #[.pointer none] w fun e w' => e = .returned (.slice none 0 0) ∧ Below w.heap.size w w' := by
  have S := St.init (fun _ => False) w
  go_enter Tryz.func30, Tryz.ntmps30
  go_wp2_with first | ((with_reducible refine tot_done ?ht ?_); (case ht => kernel_rfl)) | ((with_reducible apply wps_load S 0); (case hx | hi | hu => rfl); (case hT => decide +kernel))
  go_ret
  exact ⟨rfl, S.below⟩
theorem waits_nil (w : World) : Calls Tryz.prog 18 #[.pointer none] w fun e w' => e = .returned (.slice none 0 0) ∧ Below w.heap.size w w' := by
  have S := St.init (fun _ => False) w
  go_enter Tryz.func18, Tryz.ntmps18
  go_wp2_with first | ((with_reducible refine tot_done ?ht ?_); (case ht => kernel_rfl)) | ((with_reducible apply wps_alloc1 (E := 40) S); (case hz => exact Tryz.zeroValue40); (case h1 => rfl); clear S; intro bz wz S) | ((with_reducible apply wps_alloca (E := 52) S); (case hz => exact Tryz.zeroValue52); clear S; intro bz wz S) | ((with_reducible apply wps_load S 0); (case hx | hi | hu => rfl); (case hT => decide +kernel)) | ((with_reducible apply wps_loada (T := 52) (k := 7) S 0); (case hx | hi => rfl); (case hk => exact Nat.le_of_ble_eq_true rfl); (case hT => decide +kernel))
  go_ret
  exact ⟨rfl, S.below⟩
theorem peak_nil (w : World) : Calls Tryz.prog 29 #[.pointer none] w fun e w' => e = .returned (.int .i64 0) ∧ Below w.heap.size w w' := by
  have S := St.init (fun _ => False) w
  go_enter Tryz.func29, Tryz.ntmps29
  go_wp2_with first | ((with_reducible refine tot_done ?ht ?_); (case ht => kernel_rfl)) | ((with_reducible apply wps_load S 0); (case hx | hi | hu => rfl); (case hT => decide +kernel))
  go_ret
  exact ⟨rfl, S.below⟩
theorem scopy_nil (w : World) : Calls Tryz.prog 32 #[.pointer none] w fun e w' => e = .returned (.pointer none) ∧ Below w.heap.size w w' := by
  have S := St.init (fun _ => False) w
  go_enter Tryz.func32, Tryz.ntmps32
  go_wp2_with first | ((with_reducible refine tot_done ?ht ?_); (case ht => kernel_rfl)) | ((with_reducible apply wps_text S); (case hm => kernel_rfl); (case hB => decide +kernel); clear S; intro wz S) | ((with_reducible apply wps_boxa S); (case hx => rfl); clear S; intro bz wz S) | ((with_reducible apply wps_box1 (v := .int _ _) S); (case hx | h1 => rfl); clear S; intro bz wz S) | ((with_reducible apply wps_box1 (v := .bool _) S); (case hx | h1 => rfl); clear S; intro bz wz S) | ((with_reducible apply wps_box1 (v := .slice _ _ _) S); (case hx | h1 => rfl); clear S; intro bz wz S) | ((with_reducible apply wps_box1 (v := .pointer _) S); (case hx | h1 => rfl); clear S; intro bz wz S) | ((with_reducible apply wps_box1 (v := .map _) S); (case hx | h1 => rfl); clear S; intro bz wz S) | ((with_reducible apply wps_box1 (v := .string _) S); (case hx | h1 => rfl); clear S; intro bz wz S) | ((with_reducible apply wps_box1 (v := .func _ _ _) S); (case hx | h1 => rfl); clear S; intro bz wz S) | ((with_reducible apply wps_load S 0); (case hx | hi | hu => rfl); (case hT => decide +kernel))
  go_ret
  exact ⟨rfl, S.below⟩
theorem all_nil (most : Int) (w : World) : Calls Tryz.prog 24 #[.pointer none, .int .i64 most] w fun e w' => e = .returned (.tuple #[.slice none 0 0, .slice none 0 0, .int .i64 2]) ∧ Below w.heap.size w w' := by
  have S := St.init (fun _ => False) w
  go_enter Tryz.func24, Tryz.ntmps24
  go_wp2_with first | (go_at_call 11; refine Calls.mono (snew_nil _) ?_; rintro e wz ⟨rfl, hE⟩; replace S := S.ext (Keep.of_below hE); clear hE) | ((with_reducible refine tot_done ?ht ?_); (case ht => kernel_rfl))
  (try simp only [Exit.inBlock, Exit.then]); refine bodyPost_ret (results3 rfl (res_tmp rfl) (res_tmp rfl) (res_tmp rfl)) rfl ?_
  exact ⟨rfl, S.below⟩
set_option maxRecDepth 100000 in
set_option maxHeartbeats 4000000 in
theorem seqNil_calls (t most : Int) (w : World) (F : Nat → Prop) (ht : Tab.at_ w F) : Calls Tryz.prog 7 #[.int .i64 t, .int .i64 most] w fun r w' => r = .returned (.bool true) ∧ Below w.heap.size w w' := by
  have S : St (fun _ => False) w w [Tab] := (St.init _ w).share rfl rfl ht
  clear ht
  go_enter Tryz.func7, Tryz.ntmps7
  go_wp2_with first | go_skip | ((with_reducible refine wpList_skip ?hw ?_); (case hw => with_unfolding_all rfl); simp only [Act.put, List.setIfInBounds_toArray, List.set_cons_succ, List.set_cons_zero]) | (go_at_call 11; refine Calls.mono (snew_nil _) ?_; rintro e wz ⟨rfl, hE⟩; replace S := S.ext (Keep.of_below hE); clear hE) | (go_at_call 24; refine Calls.mono (all_nil _ _) ?_; rintro e wz ⟨rfl, hE⟩; replace S := S.ext (Keep.of_below hE); clear hE) | (go_at_call 23; refine Calls.mono (until_nil _ _ _) ?_; rintro e wz ⟨rfl, hE⟩; replace S := S.ext (Keep.of_below hE); clear hE) | (go_at_call 13; refine Calls.mono (step_nil _) ?_; rintro e wz ⟨rfl, hE⟩; replace S := S.ext (Keep.of_below hE); clear hE) | (go_at_call 31; refine Calls.mono (next_nil _) ?_; rintro e wz ⟨rfl, hE⟩; replace S := S.ext (Keep.of_below hE); clear hE) | (go_at_call 18; refine Calls.mono (waits_nil _) ?_; rintro e wz ⟨rfl, hE⟩; replace S := S.ext (Keep.of_below hE); clear hE) | (go_at_call 30; refine Calls.mono (states_nil _) ?_; rintro e wz ⟨rfl, hE⟩; replace S := S.ext (Keep.of_below hE); clear hE) | (go_at_call 29; refine Calls.mono (peak_nil _) ?_; rintro e wz ⟨rfl, hE⟩; replace S := S.ext (Keep.of_below hE); clear hE) | (go_at_call 32; refine Calls.mono (scopy_nil _) ?_; rintro e wz ⟨rfl, hE⟩; replace S := S.ext (Keep.of_below hE); clear hE) | (go_at_call 10; refine Calls.mono (awake9_calls _ _ (S.get (i := 1) rfl).choose_spec) ?_; rintro e wz ⟨rfl, hE⟩; replace S := S.ext (Keep.of_below hE); clear hE) | ((with_reducible apply wps_storea (T := 45) S 0 (vs := [.int .i64 0, .int .i64 0, .slice none 0 0, .int .i64 0, .int .i64 0, .int .i64 0, .int .i64 0, .slice none 0 0]) (m := 8)); (case hx | hy | hi | hm | h1 => rfl); (case hn => exact Nat.le_of_ble_eq_true rfl); (case hT => decide +kernel); clear S; intro wz S; simp only [List.set_cons_zero, List.set_cons_succ, setAll, List.setIfInBounds_toArray] at S) | ((with_reducible refine tot_done ?ht ?_); (case ht => kernel_rfl)) | ((with_reducible apply wps_alloca (E := 45) S); (case hz => exact Tryz.zeroValue45); clear S; intro bz wz S)
  go_ret
  exact ⟨rfl, S.below⟩
end Go.Proofs.YthegonbbimmhhaaGreatDoor

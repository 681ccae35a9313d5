import Derived.Test.YtcbdacmdmaoegaaH5
import Derived.Test.YtcbdacmdmaoegaaRng
/- The walk of the law IheapNil: a nil heap has nothing. -/
namespace Go.Proofs.Ytcbdacmdmaoegaa
open Go Go.RowKit Reg Mem

theorem nil_pull (k : Key) (w : World) : Calls Try.prog 20 #[.pointer none, .agg #[.int .i64 k.at_, .int .i64 k.src, .int .i64 k.sent, .int .i64 k.no]] w fun e w' => e = .returned (.tuple #[.int .i64 0, .int .i64 2]) ∧ Below w.heap.size w w' := by
  have S := St.init (fun _ => False) w
  go_enter Try.func20, Try.ntmps20
  go_wp2_with first
    | ((with_reducible refine tot_done ?ht ?_); (case ht => kernel_rfl))
    | ((with_reducible apply wps_text S); (case hm => kernel_rfl); (case hB => decide +kernel); clear S; intro wz S)
    | ((with_reducible apply wps_boxa S); (case hx => rfl); clear S; intro bz wz S)
    | ((with_reducible apply wps_box1 (v := .int _ _) S); (case hx => rfl); (case h1 => rfl); clear S; intro bz wz S)
    | ((with_reducible apply wps_box1 (v := .bool _) S); (case hx => rfl); (case h1 => rfl); clear S; intro bz wz S)
    | ((with_reducible apply wps_box1 (v := .slice _ _ _) S); (case hx => rfl); (case h1 => rfl); clear S; intro bz wz S)
    | ((with_reducible apply wps_box1 (v := .pointer _) S); (case hx => rfl); (case h1 => rfl); clear S; intro bz wz S)
    | ((with_reducible apply wps_box1 (v := .map _) S); (case hx => rfl); (case h1 => rfl); clear S; intro bz wz S)
    | ((with_reducible apply wps_box1 (v := .string _) S); (case hx => rfl); (case h1 => rfl); clear S; intro bz wz S)
    | ((with_reducible apply wps_box1 (v := .func _ _ _) S); (case hx => rfl); (case h1 => rfl); clear S; intro bz wz S)
    | ((with_reducible apply wps_alloca (E := 90) S); (case hz => exact Try.zeroValue90); clear S; intro bz wz S)
    | ((with_reducible apply wps_load S 0); (case hx => rfl); (case hi => rfl); (case hT => decide +kernel); (case hu => rfl))
    | ((with_reducible apply wps_loada (T := 28) (k := 4) S 0); (case hx => rfl); (case hi => rfl); (case hT => decide +kernel); (case hk => exact Nat.le_of_ble_eq_true rfl))
    | ((with_reducible apply wps_loada (T := 90) (k := 5) S 0); (case hx => rfl); (case hi => rfl); (case hT => decide +kernel); (case hk => exact Nat.le_of_ble_eq_true rfl))
  go_ret2
  exact ⟨rfl, S.below⟩
theorem nil_get (k : Key) (w : World) : Calls Try.prog 19 #[.pointer none, .agg #[.int .i64 k.at_, .int .i64 k.src, .int .i64 k.sent, .int .i64 k.no]] w fun e w' => e = .returned (.tuple #[.int .i64 0, .int .i64 2]) ∧ Below w.heap.size w w' := by
  have S := St.init (fun _ => False) w
  go_enter Try.func19, Try.ntmps19
  go_wp2_with first
    | ((with_reducible refine tot_done ?ht ?_); (case ht => kernel_rfl))
    | ((with_reducible apply wps_text S); (case hm => kernel_rfl); (case hB => decide +kernel); clear S; intro wz S)
    | ((with_reducible apply wps_boxa S); (case hx => rfl); clear S; intro bz wz S)
    | ((with_reducible apply wps_box1 (v := .int _ _) S); (case hx => rfl); (case h1 => rfl); clear S; intro bz wz S)
    | ((with_reducible apply wps_box1 (v := .bool _) S); (case hx => rfl); (case h1 => rfl); clear S; intro bz wz S)
    | ((with_reducible apply wps_box1 (v := .slice _ _ _) S); (case hx => rfl); (case h1 => rfl); clear S; intro bz wz S)
    | ((with_reducible apply wps_box1 (v := .pointer _) S); (case hx => rfl); (case h1 => rfl); clear S; intro bz wz S)
    | ((with_reducible apply wps_box1 (v := .map _) S); (case hx => rfl); (case h1 => rfl); clear S; intro bz wz S)
    | ((with_reducible apply wps_box1 (v := .string _) S); (case hx => rfl); (case h1 => rfl); clear S; intro bz wz S)
    | ((with_reducible apply wps_box1 (v := .func _ _ _) S); (case hx => rfl); (case h1 => rfl); clear S; intro bz wz S)
    | ((with_reducible apply wps_load S 0); (case hx => rfl); (case hi => rfl); (case hT => decide +kernel); (case hu => rfl))
    | ((with_reducible apply wps_loada (T := 28) (k := 4) S 0); (case hx => rfl); (case hi => rfl); (case hT => decide +kernel); (case hk => exact Nat.le_of_ble_eq_true rfl))
  go_ret2
  exact ⟨rfl, S.below⟩
theorem nil_first (w : World) : Calls Try.prog 26 #[.pointer none] w fun e w' => e = .returned (.tuple #[.agg #[.int .i64 0, .int .i64 0, .int .i64 0, .int .i64 0], .int .i64 0, .int .i64 2]) ∧ Below w.heap.size w w' := by
  have S := St.init (fun _ => False) w
  go_enter Try.func26, Try.ntmps26
  go_wp2_with first
    | ((with_reducible apply wps_storea (T := 28) S 0 (vs := [.int .i64 0, .int .i64 0, .int .i64 0, .int .i64 0]) (m := 4)); (case hx => rfl); (case hy => rfl); (case hi => rfl); (case hT => decide +kernel); (case hm => rfl); (case h1 => rfl); (case hn => exact Nat.le_of_ble_eq_true rfl); clear S; intro wz S; simp only [List.set_cons_zero, List.set_cons_succ, setAll, List.setIfInBounds_toArray] at S)
    | ((with_reducible refine tot_done ?ht ?_); (case ht => kernel_rfl))
    | ((with_reducible apply wps_text S); (case hm => kernel_rfl); (case hB => decide +kernel); clear S; intro wz S)
    | ((with_reducible apply wps_alloca (E := 28) S); (case hz => exact Try.zeroValue28); clear S; intro bz wz S)
    | ((with_reducible apply wps_load S 0); (case hx => rfl); (case hi => rfl); (case hT => decide +kernel); (case hu => rfl))
    | ((with_reducible apply wps_loada (T := 28) (k := 4) S 0); (case hx => rfl); (case hi => rfl); (case hT => decide +kernel); (case hk => exact Nat.le_of_ble_eq_true rfl))
  (try simp only [Exit.inBlock, Exit.then]); refine bodyPost_ret (results3 rfl (S.resA 0 rfl rfl (by kernel_rfl)) (res_tmp rfl) (res_tmp rfl)) rfl ?_
  exact ⟨rfl, S.below⟩
theorem nil_pop (w : World) : Calls Try.prog 27 #[.pointer none] w fun e w' => e = .returned (.tuple #[.agg #[.int .i64 0, .int .i64 0, .int .i64 0, .int .i64 0], .int .i64 0, .int .i64 2]) ∧ Below w.heap.size w w' := by
  have S := St.init (fun _ => False) w
  go_enter Try.func27, Try.ntmps27
  go_wp2_with first
    | (go_at_call 26; refine Calls.mono (nil_first _) ?_; rintro e wz ⟨rfl, hE⟩; replace S := S.ext (Keep.of_below hE); clear hE)
    | ((with_reducible apply wps_storea (T := 28) S 0 (vs := [.int .i64 0, .int .i64 0, .int .i64 0, .int .i64 0]) (m := 4)); (case hx => rfl); (case hy => rfl); (case hi => rfl); (case hT => decide +kernel); (case hm => rfl); (case h1 => rfl); (case hn => exact Nat.le_of_ble_eq_true rfl); clear S; intro wz S; simp only [List.set_cons_zero, List.set_cons_succ, setAll, List.setIfInBounds_toArray] at S)
    | ((with_reducible refine tot_done ?ht ?_); (case ht => kernel_rfl))
    | ((with_reducible apply wps_alloca (E := 28) S); (case hz => exact Try.zeroValue28); clear S; intro bz wz S)
    | ((with_reducible apply wps_loada (T := 28) (k := 4) S 0); (case hx => rfl); (case hi => rfl); (case hT => decide +kernel); (case hk => exact Nat.le_of_ble_eq_true rfl))
  (try simp only [Exit.inBlock, Exit.then]); refine bodyPost_ret (results3 rfl (S.resA 0 rfl rfl (by kernel_rfl)) (res_tmp rfl) (res_tmp rfl)) rfl ?_
  exact ⟨rfl, S.below⟩
theorem nil_batch (w : World) : Calls Try.prog 28 #[.pointer none] w fun e w' => e = .returned (.tuple #[.int .i64 0, .slice none 0 0, .int .i64 2]) ∧ Below w.heap.size w w' := by
  have S := St.init (fun _ => False) w
  go_enter Try.func28, Try.ntmps28
  go_wp2_with first
    | go_skip
    | ((with_reducible refine wpList_skip ?hw ?_); (case hw => with_unfolding_all rfl); simp only [Act.put, List.setIfInBounds_toArray, List.set_cons_succ, List.set_cons_zero])
    | (go_at_call 26; refine Calls.mono (nil_first _) ?_; rintro e wz ⟨rfl, hE⟩; replace S := S.ext (Keep.of_below hE); clear hE)
    | ((with_reducible apply wps_storea (T := 28) S 0 (vs := [.int .i64 0, .int .i64 0, .int .i64 0, .int .i64 0]) (m := 4)); (case hx => rfl); (case hy => rfl); (case hi => rfl); (case hT => decide +kernel); (case hm => rfl); (case h1 => rfl); (case hn => exact Nat.le_of_ble_eq_true rfl); clear S; intro wz S; simp only [List.set_cons_zero, List.set_cons_succ, setAll, List.setIfInBounds_toArray] at S)
    | ((with_reducible refine tot_done ?ht ?_); (case ht => kernel_rfl))
    | ((with_reducible apply wps_text S); (case hm => kernel_rfl); (case hB => decide +kernel); clear S; intro wz S)
    | ((with_reducible apply wps_alloca (E := 28) S); (case hz => exact Try.zeroValue28); clear S; intro bz wz S)
    | ((with_reducible apply wps_load S 0); (case hx => rfl); (case hi => rfl); (case hT => decide +kernel); (case hu => rfl))
  (try simp only [Exit.inBlock, Exit.then]); refine bodyPost_ret (results3 rfl (res_tmp rfl) (res_tmp rfl) (res_tmp rfl)) rfl ?_
  exact ⟨rfl, S.below⟩
theorem nil_push (k : Key) (x : Int) (w : World) : Calls Try.prog 21 #[.pointer none, .agg #[.int .i64 k.at_, .int .i64 k.src, .int .i64 k.sent, .int .i64 k.no], .int .i64 x] w fun e w' => e = .returned (.int .i64 2) ∧ Below w.heap.size w w' := by
  have S := St.init (fun _ => False) w
  go_enter Try.func21, Try.ntmps21
  go_wp2_with first
    | ((with_reducible refine tot_done ?ht ?_); (case ht => kernel_rfl))
    | ((with_reducible apply wps_text S); (case hm => kernel_rfl); (case hB => decide +kernel); clear S; intro wz S)
    | ((with_reducible apply wps_boxa S); (case hx => rfl); clear S; intro bz wz S)
    | ((with_reducible apply wps_box1 (v := .int _ _) S); (case hx => rfl); (case h1 => rfl); clear S; intro bz wz S)
    | ((with_reducible apply wps_box1 (v := .bool _) S); (case hx => rfl); (case h1 => rfl); clear S; intro bz wz S)
    | ((with_reducible apply wps_box1 (v := .slice _ _ _) S); (case hx => rfl); (case h1 => rfl); clear S; intro bz wz S)
    | ((with_reducible apply wps_box1 (v := .pointer _) S); (case hx => rfl); (case h1 => rfl); clear S; intro bz wz S)
    | ((with_reducible apply wps_box1 (v := .map _) S); (case hx => rfl); (case h1 => rfl); clear S; intro bz wz S)
    | ((with_reducible apply wps_box1 (v := .string _) S); (case hx => rfl); (case h1 => rfl); clear S; intro bz wz S)
    | ((with_reducible apply wps_box1 (v := .func _ _ _) S); (case hx => rfl); (case h1 => rfl); clear S; intro bz wz S)
    | ((with_reducible apply wps_load S 0); (case hx => rfl); (case hi => rfl); (case hT => decide +kernel); (case hu => rfl))
    | ((with_reducible apply wps_loada (T := 28) (k := 4) S 0); (case hx => rfl); (case hi => rfl); (case hT => decide +kernel); (case hk => exact Nat.le_of_ble_eq_true rfl))
  go_ret
  exact ⟨rfl, S.below⟩
theorem nil_len (w : World) : Calls Try.prog 29 #[.pointer none] w fun e w' => e = .returned (.int .i64 0) ∧ Below w.heap.size w w' := by
  have S := St.init (fun _ => False) w
  go_enter Try.func29, Try.ntmps29
  go_wp2_with first
    | ((with_reducible refine tot_done ?ht ?_); (case ht => kernel_rfl))
    | ((with_reducible apply wps_load S 0); (case hx => rfl); (case hi => rfl); (case hT => decide +kernel); (case hu => rfl))
  go_ret
  exact ⟨rfl, S.below⟩
theorem nil_copy (w : World) : Calls Try.prog 23 #[.pointer none] w fun e w' => e = .returned (.pointer none) ∧ Below w.heap.size w w' := by
  have S := St.init (fun _ => False) w
  go_enter Try.func23, Try.ntmps23
  go_wp2_with first
    | ((with_reducible refine tot_done ?ht ?_); (case ht => kernel_rfl))
    | ((with_reducible apply wps_text S); (case hm => kernel_rfl); (case hB => decide +kernel); clear S; intro wz S)
    | ((with_reducible apply wps_boxa S); (case hx => rfl); clear S; intro bz wz S)
    | ((with_reducible apply wps_box1 (v := .int _ _) S); (case hx => rfl); (case h1 => rfl); clear S; intro bz wz S)
    | ((with_reducible apply wps_box1 (v := .bool _) S); (case hx => rfl); (case h1 => rfl); clear S; intro bz wz S)
    | ((with_reducible apply wps_box1 (v := .slice _ _ _) S); (case hx => rfl); (case h1 => rfl); clear S; intro bz wz S)
    | ((with_reducible apply wps_box1 (v := .pointer _) S); (case hx => rfl); (case h1 => rfl); clear S; intro bz wz S)
    | ((with_reducible apply wps_box1 (v := .map _) S); (case hx => rfl); (case h1 => rfl); clear S; intro bz wz S)
    | ((with_reducible apply wps_box1 (v := .string _) S); (case hx => rfl); (case h1 => rfl); clear S; intro bz wz S)
    | ((with_reducible apply wps_box1 (v := .func _ _ _) S); (case hx => rfl); (case h1 => rfl); clear S; intro bz wz S)
    | ((with_reducible apply wps_load S 0); (case hx => rfl); (case hi => rfl); (case hT => decide +kernel); (case hu => rfl))
  go_ret
  exact ⟨rfl, S.below⟩
theorem nil_all (w : World) : Calls Try.prog 24 #[.pointer none] w fun e w' => ∃ b, e = .returned (.func (.func 50) #[] #[.pointer (some ⟨b, 0, none⟩)]) ∧ St (fun _ => False) w w' [Blk false b #[.slice none 0 0] 83] := by
  have S := St.init (fun _ => False) w
  go_enter Try.func24, Try.ntmps24
  go_wp2_with first
    | ((with_reducible refine tot_done ?ht ?_); (case ht => kernel_rfl))
    | ((with_reducible apply wps_alloc1 (E := 83) S); (case hz => exact Try.zeroValue83); (case h1 => rfl); clear S; intro bz wz S)
    | ((with_reducible apply wps_load S 0); (case hx => rfl); (case hi => rfl); (case hT => decide +kernel); (case hu => rfl))
  go_ret
  exact ⟨_, rfl, S⟩
theorem key_zero : ceqs (Key.cells ⟨0, 0, 0, 0⟩) (Key.cells ⟨0, 0, 0, 0⟩) = true := by rfl
set_option maxRecDepth 100000 in
set_option maxHeartbeats 8000000 in
theorem iheapNil_calls (o : Op3) (w : World) : Calls Try.prog 7 #[.agg #[.int .i64 o.ask, .int .i64 o.k.at_, .int .i64 o.k.src, .int .i64 o.k.sent, .int .i64 o.k.no, .int .i64 o.v]] w fun r w' => r = .returned (.bool true) ∧ Below w.heap.size w w' := by
  have S := St.init (fun _ => False) w
  have hq : ∀ (w : World) (b : Nat), (binOp .eql 53 (.func (.func 50) #[] #[.pointer (some ⟨b, 0, none⟩)]) .nilFunc).run Try.prog w = .ok (.bool false) w := fun w b => run_eql_func_nil w _ _ _ Try.underlying53
  have HK := Lib.hid key_zero
  refine calls_marks Try.func7 rfl ?_
  simp only [Try.ntmps7, List.size_toArray, List.length_cons, List.length_nil, Nat.reduceAdd, Nat.reduceSub, Array.replicate_succ, Array.replicate_zero, List.push_toArray, List.append_toArray, List.nil_append, List.cons_append]
  simp only [List.append_eq]
  simp only [List.cons_append]
  simp only [List.nil_append]
  go_wp2_with first
    | go_skip
    | ((with_reducible refine wpList_skip ?hw ?_); (case hw => with_unfolding_all rfl); simp only [Act.put, List.setIfInBounds_toArray, List.set_cons_succ, List.set_cons_zero])
    | ((with_reducible apply wps_boxa (E := 45) S); (case hx => rfl); clear S; intro b1 wz S)
    | ((with_reducible apply wps_loada (T := 28) (k := 4) S 0); (case hx => rfl); (case hi => rfl); (case hT => decide +kernel); (case hk => exact Nat.le_of_ble_eq_true rfl))
    | ((with_reducible apply wps_loada (T := 28) (k := 4) S 1); (case hx => rfl); (case hi => rfl); (case hT => decide +kernel); (case hk => exact Nat.le_of_ble_eq_true rfl))
    | ((with_reducible apply wps_loada (T := 28) (k := 4) S 2); (case hx => rfl); (case hi => rfl); (case hT => decide +kernel); (case hk => exact Nat.le_of_ble_eq_true rfl))
    | ((with_reducible apply wps_alloc1 (E := 3) S); (case hz => exact Try.zeroValue3); (case h1 => rfl); clear S; intro b18 wz S)
    | ((with_reducible apply wps_alloca (E := 28) S); (case hz => exact Try.zeroValue28); clear S; first | (guard_hyp b8 : Nat; intro b11 wz S) | intro b8 wz S)
    | ((with_reducible apply wps_storea (T := 28) S 0 (vs := [.int .i64 0, .int .i64 0, .int .i64 0, .int .i64 0]) (m := 4)); (case hx => rfl); (case hy => rfl); (case hi => rfl); (case hT => decide +kernel); (case hm => rfl); (case h1 => rfl); (case hn => exact Nat.le_of_ble_eq_true rfl); clear S; intro wz S; simp only [List.set_cons_zero, List.set_cons_succ, setAll, List.setIfInBounds_toArray] at S)
    | ((with_reducible apply wps_store (u := .int .i64 0) S 0); (case hx => rfl); (case hy => rfl); (case hi => rfl); (case hT => decide +kernel); (case h1 => rfl); (case hn => exact Nat.le_of_ble_eq_true rfl); clear S; intro wz S; simp only [List.set_cons_zero, List.setIfInBounds_toArray] at S)
    | (go_at_call 20; refine Calls.mono (nil_pull o.k _) ?_; rintro e wz ⟨rfl, hE⟩; replace S := S.ext (Keep.of_below hE); clear hE)
    | (go_at_call 19; refine Calls.mono (nil_get o.k _) ?_; rintro e wz ⟨rfl, hE⟩; replace S := S.ext (Keep.of_below hE); clear hE)
    | (go_at_call 26; refine Calls.mono (nil_first _) ?_; rintro e wz ⟨rfl, hE⟩; replace S := S.ext (Keep.of_below hE); clear hE)
    | (go_at_call 27; refine Calls.mono (nil_pop _) ?_; rintro e wz ⟨rfl, hE⟩; replace S := S.ext (Keep.of_below hE); clear hE)
    | (go_at_call 28; refine Calls.mono (nil_batch _) ?_; rintro e wz ⟨rfl, hE⟩; replace S := S.ext (Keep.of_below hE); clear hE)
    | (go_at_call 24; refine Calls.mono (nil_all _) ?_; rintro e wz ⟨br, rfl, T⟩; replace S := S.join T rfl; clear T; simp only [List.cons_append, List.nil_append] at S)
    | ((with_reducible refine tot_done ?ht ?_); (case ht => kernel_rfl))
    | ((with_reducible apply wps_load S 0); (case hx => rfl); (case hi => rfl); (case hT => decide +kernel); (case hu => rfl))
    | ((with_reducible apply wps_loada (T := 28) (k := 4) S 0); (case hx => rfl); (case hi => rfl); (case hT => decide +kernel); (case hk => exact Nat.le_of_ble_eq_true rfl))
  replace S := ((S.nil 90 Row.cells 5).freeze true 0 hcells rfl).weak (i := 2) (A' := Blk true br #[.slice none 0 0] 83) rfl (fun e => by cases e) (fun F h => ⟨F, fun _ hb => hb, h⟩)
  replace S := S.pick [2, 0, 1, 3, 4, 5] rfl
  simp only [List.set_cons_zero, List.set_cons_succ, pick, nth] at S
  clear hq
  refine wps_range (all2_iter br none 0 [] (Nat.zero_le _)) S rfl (calls_enter Try.func50 (by kernel_rfl) rfl) (fun _ L => L = [Blk false b18 #[.int .i64 0] 3, Blk false b11 #[.int .i64 0, .int .i64 0, .int .i64 0, .int .i64 0] 28, Blk false b8 #[.int .i64 0, .int .i64 0, .int .i64 0, .int .i64 0] 28, Blk false b1 #[.int .i64 o.ask, .int .i64 o.k.at_, .int .i64 o.k.src, .int .i64 o.k.sent, .int .i64 o.k.no, .int .i64 o.v] 45]) (fun _ _ _ => False) rfl (fun x args N h => by obtain ⟨rfl, _⟩ := h; rfl) ?round ?done ?stop
  case stop => intro _ _ _ _ _ _ h; exact h.elim
  case round => rintro lp Dr r k x args N L W hx; simp at hx
  case done =>
    rintro Dr W L rfl S
    simp only [List.cons_append, List.nil_append] at S
    go_wp2_with first
      | go_skip
      | ((with_reducible refine wpList_skip ?hw ?_); (case hw => with_unfolding_all rfl); simp only [Act.put, List.setIfInBounds_toArray, List.set_cons_succ, List.set_cons_zero])
      | ((with_reducible apply wps_load S 3); (case hx => rfl); (case hi => rfl); (case hT => decide +kernel); (case hu => rfl))
      | ((with_reducible apply wps_loada (T := 28) (k := 4) S 4); (case hx => rfl); (case hi => rfl); (case hT => decide +kernel); (case hk => exact Nat.le_of_ble_eq_true rfl))
      | ((with_reducible apply wps_loada (T := 28) (k := 4) S 5); (case hx => rfl); (case hi => rfl); (case hT => decide +kernel); (case hk => exact Nat.le_of_ble_eq_true rfl))
      | ((with_reducible apply wps_loada (T := 28) (k := 4) S 6); (case hx => rfl); (case hi => rfl); (case hT => decide +kernel); (case hk => exact Nat.le_of_ble_eq_true rfl))
      | ((with_reducible apply wps_load S 6); (case hx => rfl); (case hi => rfl); (case hT => decide +kernel); (case hu => rfl))
      | ((with_reducible apply wpList_eql_agg (t := 28) (ks := [.int .i64, .int .i64, .int .i64, .int .i64]) (b := true)); (case hx => rfl); (case hy => rfl); (case hl => kernel_rfl); (case ha => kernel_rfl); (case hg => kernel_rfl); (case hfx => rfl); (case hfy => rfl); (case hb => exact HK.out))
      | (go_at_call 21; refine Calls.mono (nil_push o.k o.v _) ?_; rintro e wz ⟨rfl, hE⟩; replace S := S.ext (Keep.of_below hE); clear hE)
      | (go_at_call 29; refine Calls.mono (nil_len _) ?_; rintro e wz ⟨rfl, hE⟩; replace S := S.ext (Keep.of_below hE); clear hE)
      | (go_at_call 23; refine Calls.mono (nil_copy _) ?_; rintro e wz ⟨rfl, hE⟩; replace S := S.ext (Keep.of_below hE); clear hE)
      | (go_at_call 17; refine Calls.mono (awake3_calls _) ?_; rintro e wz ⟨rfl, hE⟩; replace S := S.ext (Keep.of_below hE); clear hE)
    exact leaves_ret1 S rfl fun w' S => ⟨_, results1 rfl (res_tmp rfl), ⟨rfl, S.below⟩⟩
end Go.Proofs.Ytcbdacmdmaoegaa

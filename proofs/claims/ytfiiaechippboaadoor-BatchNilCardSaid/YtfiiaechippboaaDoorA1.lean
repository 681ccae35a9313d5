import Derived.Test.YtfiiaechippboaaDoorB2
import Derived.Test.YtfiiaechippboaaDoorD1
import Derived.Test.YtfiiaechippboaaDoorCfgAny
/- The walks of the law's awake and BatchNil. -/
namespace Go.Proofs.YtfiiaechippboaaDoor
open Go Go.RowKit Reg Mem

def wk8 : Cfg := ⟨[[⟨1, 4, 1, 0, 0⟩, ⟨1, 5, 2, 0, 0⟩, ⟨12, 6, 0, 0, 0⟩, ⟨14, 4, 5, 6, 0⟩]], [⟨0, ⟨0, 0, 0, 0⟩⟩, ⟨0, ⟨0, 0, 0, 0⟩⟩], [], 9, 9, 1⟩
def wk8e : Event := ⟨⟨5, -1, -1, 0⟩, 0, 0, 9⟩
def wk8x : Event := ⟨⟨7, 0, 5, 0⟩, 1, 0, 9⟩
theorem wk8_ok : cfgE wk8 = 0 := by decide +kernel
theorem wk8_wrong : wrongE wk8.lps.length 0 [wk8e] = 0 := by decide +kernel
theorem wk8_run : (batchC wk8 0 ⟨0, 0, 0, 0⟩ [wk8e]).2 = [wk8x] := by decide +kernel
theorem wk8_mid : Mid wk8 := ⟨by decide, by decide, by decide⟩
theorem wk8_mid2 : ∀ p ∈ wk8.programs, p.length ≤ 65536 := by decide
set_option maxRecDepth 100000 in
set_option maxHeartbeats 4000000 in
theorem awake8_calls (w : World) (F : Nat → Prop) (ht : Tab.at_ w F) : Calls Tryd.prog 11 #[] w fun r w' => r = .returned (.bool true) ∧ Below w.heap.size w w' := by
  have S : St (fun _ => False) w w [Tab] := (St.init _ w).share rfl rfl ht
  clear ht
  replace S := S.nil 96 Start.cells 4
  go_enter Tryd.func11, Tryd.ntmps11
  go_wp2_with first
    | go_skip
    | ((with_reducible refine wpList_skip ?hw ?_); (case hw => with_unfolding_all rfl); simp only [Act.put, List.setIfInBounds_toArray, List.set_cons_succ, List.set_cons_zero])
    | ((with_reducible apply wps_buildSlice (T := 71) (E := 70) (cs := #[.int .i64 1, .int .i64 4, .int .i64 1, .int .i64 0, .int .i64 0, .int .i64 1, .int .i64 5, .int .i64 2, .int .i64 0, .int .i64 0, .int .i64 12, .int .i64 6, .int .i64 0, .int .i64 0, .int .i64 0, .int .i64 14, .int .i64 4, .int .i64 5, .int .i64 6, .int .i64 0]) S); (case hr => intro w; kernel_rfl); clear S; intro bi wz S)
    | ((with_reducible apply wps_buildSlice (T := 22) (E := 71) (cs := #[.slice (some ⟨bi, 0, none⟩) 4 4]) S); (case hr => intro w; kernel_rfl); clear S; intro bh wz S)
    | ((with_reducible apply wps_buildSlice (T := 23) (E := 73) (cs := #[.int .i64 0, .int .i64 0, .int .i64 0, .int .i64 0, .int .i64 0, .int .i64 0, .int .i64 0, .int .i64 0, .int .i64 0, .int .i64 0]) S); (case hr => intro w; kernel_rfl); clear S; intro bp wz S)
    | ((with_reducible refine tot_done ?ht ?_); (case ht => kernel_rfl))
    | ((with_reducible apply wps_alloca (E := 28) S); (case hz => exact Tryd.zeroValue28); clear S; intro bz wz S)
  have hcfg : (CfgA true [.slice (some ⟨bh, 0, none⟩) 1 1, .slice (some ⟨bp, 0, none⟩) 2 2, .slice none 0 0, .int .i64 9, .int .i64 9, .int .i64 1] [.slice (some ⟨bi, 0, none⟩) 4 4] wk8).at_ wz (fun b => b < wz.heap.size) :=
    cfg_any (c := wk8) (blk_sl (n := 1) [.slice (some ⟨bi, 0, none⟩) 4 4] vcells (S.get (i := 1) rfl).choose_spec rfl rfl) (blk_sl (n := 2) wk8.lps plcells (S.get (i := 0) rfl).choose_spec rfl rfl) (own_sl (sh := true) stcells (S.get (i := 3) rfl).choose_spec)
      (sls_one (blk_sl (n := 4) wk8.programs[0] incells (S.get (i := 2) rfl).choose_spec rfl rfl))
  refine Calls.mono (new_calls _ _ wk8 _ _ _ hcfg (S.get (i := 4) rfl).choose_spec wk8_mid wk8_mid2) ?_
  clear hcfg
  rintro e wz (⟨h, _⟩ | ⟨_, R, vs, hs, rfl, T⟩)
  · exact absurd wk8_ok h
  replace S := ((S.join T rfl).modShare 0 rfl).pick [0, 5] rfl
  repeat (first | simp only [pick] at S | simp only [nth] at S | simp only [List.set_cons_succ] at S | simp only [List.set_cons_zero] at S | simp only [List.setIfInBounds_toArray] at S | simp only [setAll] at S | simp only [List.cons_append] at S | simp only [List.nil_append] at S)
  clear T
  go_wp2_with first
    | go_skip
    | ((with_reducible refine wpList_skip ?hw ?_); (case hw => with_unfolding_all rfl); simp only [Act.put, List.setIfInBounds_toArray, List.set_cons_succ, List.set_cons_zero])
    | ((with_reducible apply wps_buildSlice (T := 29) (E := 54) (cs := #[.int .i64 5, .int .i64 (-1), .int .i64 (-1), .int .i64 0, .int .i64 0, .int .i64 0, .int .i64 9]) S); (case hr => intro w; kernel_rfl); clear S; intro be wz S)
    | ((with_reducible refine tot_done ?ht ?_); (case ht => kernel_rfl))
    | ((with_reducible apply wps_alloca (E := 28) S); (case hz => exact Tryd.zeroValue28); clear S; intro bz wz S)
  refine Calls.mono (brun_calls R vs hs wk8 0 ⟨0, 0, 0, 0⟩ _ [wk8e] _ _ _ _ (S.get (i := 1) rfl).choose_spec (blk_sl (n := 1) [wk8e] ecells (S.get (i := 0) rfl).choose_spec rfl rfl) (S.get (i := 2) rfl).choose_spec (by decide) wk8_ok (fun _ => by decide)) ?_
  rintro e wz (⟨h, _⟩ | ⟨_, v, rfl, T⟩)
  · exact absurd wk8_wrong h
  rw [wk8_run] at T
  replace S := (S.join T rfl).freeze true 0 ecells rfl
  simp only [List.cons_append, List.nil_append, List.set_cons_zero] at S
  clear T
  go_wp2_with first
    | go_skip
    | ((with_reducible refine wpList_skip ?hw ?_); (case hw => with_unfolding_all rfl); simp only [Act.put, List.setIfInBounds_toArray, List.set_cons_succ, List.set_cons_zero])
    | ((with_reducible apply wps_buildSlice (T := 29) (E := 54) (cs := #[.int .i64 7, .int .i64 0, .int .i64 5, .int .i64 0, .int .i64 1, .int .i64 0, .int .i64 9]) S); (case hr => intro w; kernel_rfl); clear S; intro be2 wz S)
    | ((with_reducible apply wps_alloca (E := 28) S); (case hz => exact Tryd.zeroValue28); clear S; intro bs wz S)
    | ((with_reducible apply wps_storea (T := 28) S 0 (vs := [_, _, _, _]) (m := 4)); (case hx => rfl); (case hy => rfl); (case hi => rfl); (case hT => decide +kernel); (case hm => rfl); (case h1 => rfl); (case hn => exact Nat.le_of_ble_eq_true rfl); clear S; intro wz S; simp only [List.set_cons_zero, setAll, List.setIfInBounds_toArray] at S)
    | (go_at_call 16; refine Calls.mono (evseq_calls _ _ [wk8x] [wk8x] _ _ _ (S.get (i := 2) rfl).choose_spec (blk_sl (n := 1) [wk8x] ecells (S.get (i := 0) rfl).choose_spec rfl rfl) (by decide) (by decide)) ?_; rintro e wz ⟨rfl, hE⟩; replace S := S.ext (Keep.of_below hE); clear hE)
    | ((with_reducible refine tot_done ?ht ?_); (case ht => kernel_rfl))
    | ((with_reducible apply wps_alloca (E := 28) S); (case hz => exact Tryd.zeroValue28); clear S; intro bz wz S)
  go_ret
  exact ⟨by simp, S.below⟩
set_option maxRecDepth 100000 in
set_option maxHeartbeats 4000000 in
theorem replay_nil (lp : Int) (s : State) (v : Value) (w : World) : Calls Tryd.prog 40 #[.pointer none, .int .i64 lp, .agg #[.int .i64 s.n0, .int .i64 s.n1, .int .i64 s.n2, .int .i64 s.n3], v] w fun r w' => r = .returned (.tuple #[.agg #[.int .i64 0, .int .i64 0, .int .i64 0, .int .i64 0], .slice none 0 0, .int .i64 2]) ∧ Below w.heap.size w w' := by
  have S := St.init (fun _ => False) w
  go_enter Tryd.func40, Tryd.ntmps40
  go_wp2_with first
    | (go_at_call 35; refine Calls.mono (bprocess_nil _ _) ?_; rintro e wz ⟨rfl, hE⟩; replace S := S.ext (Keep.of_below hE); clear hE)
    | ((with_reducible apply wps_storea (T := 28) S 2 (vs := [.int .i64 0, .int .i64 0, .int .i64 0, .int .i64 0]) (m := 4)); (case hx => rfl); (case hy => rfl); (case hi => rfl); (case hT => decide +kernel); (case hm => rfl); (case h1 => rfl); (case hn => exact Nat.le_of_ble_eq_true rfl); clear S; intro wz S; simp only [List.set_cons_zero, List.set_cons_succ, setAll, List.setIfInBounds_toArray] at S)
    | ((with_reducible apply wps_store S 1); (case hx => rfl); (case hy => rfl); (case hi => rfl); (case hT => decide +kernel); (case h1 => rfl); (case hn => exact Nat.le_of_ble_eq_true rfl); clear S; intro wz S; simp only [List.set_cons_succ, List.set_cons_zero, List.setIfInBounds_toArray] at S)
    | ((with_reducible apply wps_store S 0); (case hx => rfl); (case hy => rfl); (case hi => rfl); (case hT => decide +kernel); (case h1 => rfl); (case hn => exact Nat.le_of_ble_eq_true rfl); clear S; intro wz S; simp only [List.set_cons_zero, List.setIfInBounds_toArray] at S)
    | ((with_reducible refine tot_done ?ht ?_); (case ht => kernel_rfl))
    | ((with_reducible apply wps_text S); (case hm => kernel_rfl); (case hB => decide +kernel); clear S; intro wz S)
    | ((with_reducible apply wps_boxa S); (case hx => rfl); clear S; intro bz wz S)
    | ((with_reducible apply wps_box1 (v := .int _ _) S); (case hx => rfl); (case h1 => rfl); clear S; intro bz wz S)
    | ((with_reducible apply wps_box1 (v := .bool _) S); (case hx => rfl); (case h1 => rfl); clear S; intro bz wz S)
    | ((with_reducible apply wps_box1 (v := .slice _ _ _) S); (case hx => rfl); (case h1 => rfl); clear S; intro bz wz S)
    | ((with_reducible apply wps_box1 (v := .pointer _) S); (case hx => rfl); (case h1 => rfl); clear S; intro bz wz S)
    | ((with_reducible apply wps_box1 (v := .map _) S); (case hx => rfl); (case h1 => rfl); clear S; intro bz wz S)
    | ((with_reducible apply wps_box1 (v := .string _) S); (case hx => rfl); (case h1 => rfl); clear S; intro bz wz S)
    | ((with_reducible apply wps_box1 (v := .func _ _ _) S); (case hx => rfl); (case h1 => rfl); clear S; intro bz wz S)
    | ((with_reducible apply wps_alloca (E := 28) S); (case hz => exact Tryd.zeroValue28); clear S; intro bz wz S)
    | ((with_reducible apply wps_alloc1 (E := 29) S); (case hz => exact Tryd.zeroValue29); (case h1 => rfl); clear S; intro bz wz S)
    | ((with_reducible apply wps_alloc1 (E := 42) S); (case hz => exact Tryd.zeroValue42); (case h1 => rfl); clear S; intro bz wz S)
    | ((with_reducible apply wps_load S 0); (case hx => rfl); (case hi => rfl); (case hT => decide +kernel); (case hu => rfl))
    | ((with_reducible apply wps_loada (T := 28) (k := 4) S 0); (case hx => rfl); (case hi => rfl); (case hT => decide +kernel); (case hk => exact Nat.le_of_ble_eq_true rfl))
    | ((with_reducible apply wps_load S 1); (case hx => rfl); (case hi => rfl); (case hT => decide +kernel); (case hu => rfl))
    | ((with_reducible apply wps_loada (T := 28) (k := 4) S 1); (case hx => rfl); (case hi => rfl); (case hT => decide +kernel); (case hk => exact Nat.le_of_ble_eq_true rfl))
    | ((with_reducible apply wps_load S 2); (case hx => rfl); (case hi => rfl); (case hT => decide +kernel); (case hu => rfl))
    | ((with_reducible apply wps_loada (T := 28) (k := 4) S 2); (case hx => rfl); (case hi => rfl); (case hT => decide +kernel); (case hk => exact Nat.le_of_ble_eq_true rfl))
    | ((with_reducible apply wps_load S 3); (case hx => rfl); (case hi => rfl); (case hT => decide +kernel); (case hu => rfl))
    | ((with_reducible apply wps_loada (T := 28) (k := 4) S 3); (case hx => rfl); (case hi => rfl); (case hT => decide +kernel); (case hk => exact Nat.le_of_ble_eq_true rfl))
    | ((with_reducible apply wps_load S 4); (case hx => rfl); (case hi => rfl); (case hT => decide +kernel); (case hu => rfl))
    | ((with_reducible apply wps_loada (T := 28) (k := 4) S 4); (case hx => rfl); (case hi => rfl); (case hT => decide +kernel); (case hk => exact Nat.le_of_ble_eq_true rfl))
    | ((with_reducible apply wps_load S 5); (case hx => rfl); (case hi => rfl); (case hT => decide +kernel); (case hu => rfl))
    | ((with_reducible apply wps_loada (T := 28) (k := 4) S 5); (case hx => rfl); (case hi => rfl); (case hT => decide +kernel); (case hk => exact Nat.le_of_ble_eq_true rfl))
  (try simp only [Exit.inBlock, Exit.then]); refine bodyPost_ret (results3 rfl (S.resA 2 rfl rfl (by kernel_rfl)) (S.res1 1 rfl rfl (by decide +kernel)) (S.res1 0 rfl rfl (by decide +kernel))) rfl ?_
  exact ⟨rfl, S.below⟩
theorem replay2_nil (lp : Int) (s : State) (v : Value) (w : World) : Calls Tryd.prog 21 #[.pointer none, .int .i64 lp, .agg #[.int .i64 s.n0, .int .i64 s.n1, .int .i64 s.n2, .int .i64 s.n3], v] w fun r w' => r = .returned (.tuple #[.agg #[.int .i64 0, .int .i64 0, .int .i64 0, .int .i64 0], .int .i64 2]) ∧ Below w.heap.size w w' := by
  have S := St.init (fun _ => False) w
  go_enter Tryd.func21, Tryd.ntmps21
  go_wp2_with first
    | ((with_reducible apply wps_boxa (E := 28) S); (case hx => rfl); clear S; intro b6 wz S)
    | (go_at_call 40; refine Calls.mono (replay_nil _ s _ _) ?_; rintro e wz ⟨rfl, hE⟩; replace S := S.ext (Keep.of_below hE); clear hE)
    | ((with_reducible apply wps_storea (T := 28) S 1 (vs := [.int .i64 0, .int .i64 0, .int .i64 0, .int .i64 0]) (m := 4)); (case hx => rfl); (case hy => rfl); (case hi => rfl); (case hT => decide +kernel); (case hm => rfl); (case h1 => rfl); (case hn => exact Nat.le_of_ble_eq_true rfl); clear S; intro wz S; simp only [List.set_cons_zero, List.set_cons_succ, setAll, List.setIfInBounds_toArray] at S)
    | ((with_reducible apply wps_storea (T := 28) S 0 (vs := [.int .i64 0, .int .i64 0, .int .i64 0, .int .i64 0]) (m := 4)); (case hx => rfl); (case hy => rfl); (case hi => rfl); (case hT => decide +kernel); (case hm => rfl); (case h1 => rfl); (case hn => exact Nat.le_of_ble_eq_true rfl); clear S; intro wz S; simp only [List.set_cons_zero, List.set_cons_succ, setAll, List.setIfInBounds_toArray] at S)
    | ((with_reducible refine tot_done ?ht ?_); (case ht => kernel_rfl))
    | ((with_reducible apply wps_boxa S); (case hx => rfl); clear S; intro bz wz S)
    | ((with_reducible apply wps_box1 (v := .int _ _) S); (case hx => rfl); (case h1 => rfl); clear S; intro bz wz S)
    | ((with_reducible apply wps_box1 (v := .bool _) S); (case hx => rfl); (case h1 => rfl); clear S; intro bz wz S)
    | ((with_reducible apply wps_box1 (v := .slice _ _ _) S); (case hx => rfl); (case h1 => rfl); clear S; intro bz wz S)
    | ((with_reducible apply wps_box1 (v := .pointer _) S); (case hx => rfl); (case h1 => rfl); clear S; intro bz wz S)
    | ((with_reducible apply wps_box1 (v := .map _) S); (case hx => rfl); (case h1 => rfl); clear S; intro bz wz S)
    | ((with_reducible apply wps_box1 (v := .string _) S); (case hx => rfl); (case h1 => rfl); clear S; intro bz wz S)
    | ((with_reducible apply wps_box1 (v := .func _ _ _) S); (case hx => rfl); (case h1 => rfl); clear S; intro bz wz S)
    | ((with_reducible apply wps_alloca (E := 28) S); (case hz => exact Tryd.zeroValue28); clear S; intro bz wz S)
    | ((with_reducible apply wps_loada (T := 28) (k := 4) S 0); (case hx => rfl); (case hi => rfl); (case hT => decide +kernel); (case hk => exact Nat.le_of_ble_eq_true rfl))
    | ((with_reducible apply wps_loada (T := 28) (k := 4) S 1); (case hx => rfl); (case hi => rfl); (case hT => decide +kernel); (case hk => exact Nat.le_of_ble_eq_true rfl))
  (try simp only [Exit.inBlock, Exit.then]); refine bodyPost_ret (results2 rfl (S.resA 0 rfl rfl (by kernel_rfl)) (res_tmp rfl)) rfl ?_
  exact ⟨rfl, S.below⟩
theorem sends_nil (lp : Int) (s : State) (v : Value) (w : World) : Calls Tryd.prog 22 #[.pointer none, .int .i64 lp, .agg #[.int .i64 s.n0, .int .i64 s.n1, .int .i64 s.n2, .int .i64 s.n3], v] w fun r w' => r = .returned (.tuple #[.slice none 0 0, .int .i64 2]) ∧ Below w.heap.size w w' := by
  have S := St.init (fun _ => False) w
  go_enter Tryd.func22, Tryd.ntmps22
  go_wp2_with first
    | ((with_reducible apply wps_boxa (E := 28) S); (case hx => rfl); clear S; intro b6 wz S)
    | (go_at_call 40; refine Calls.mono (replay_nil _ s _ _) ?_; rintro e wz ⟨rfl, hE⟩; replace S := S.ext (Keep.of_below hE); clear hE)
    | ((with_reducible apply wps_storea (T := 28) S 0 (vs := [.int .i64 0, .int .i64 0, .int .i64 0, .int .i64 0]) (m := 4)); (case hx => rfl); (case hy => rfl); (case hi => rfl); (case hT => decide +kernel); (case hm => rfl); (case h1 => rfl); (case hn => exact Nat.le_of_ble_eq_true rfl); clear S; intro wz S; simp only [List.set_cons_zero, List.set_cons_succ, setAll, List.setIfInBounds_toArray] at S)
    | ((with_reducible refine tot_done ?ht ?_); (case ht => kernel_rfl))
    | ((with_reducible apply wps_boxa S); (case hx => rfl); clear S; intro bz wz S)
    | ((with_reducible apply wps_box1 (v := .int _ _) S); (case hx => rfl); (case h1 => rfl); clear S; intro bz wz S)
    | ((with_reducible apply wps_box1 (v := .bool _) S); (case hx => rfl); (case h1 => rfl); clear S; intro bz wz S)
    | ((with_reducible apply wps_box1 (v := .slice _ _ _) S); (case hx => rfl); (case h1 => rfl); clear S; intro bz wz S)
    | ((with_reducible apply wps_box1 (v := .pointer _) S); (case hx => rfl); (case h1 => rfl); clear S; intro bz wz S)
    | ((with_reducible apply wps_box1 (v := .map _) S); (case hx => rfl); (case h1 => rfl); clear S; intro bz wz S)
    | ((with_reducible apply wps_box1 (v := .string _) S); (case hx => rfl); (case h1 => rfl); clear S; intro bz wz S)
    | ((with_reducible apply wps_box1 (v := .func _ _ _) S); (case hx => rfl); (case h1 => rfl); clear S; intro bz wz S)
    | ((with_reducible apply wps_alloca (E := 28) S); (case hz => exact Tryd.zeroValue28); clear S; intro bz wz S)
    | ((with_reducible apply wps_loada (T := 28) (k := 4) S 0); (case hx => rfl); (case hi => rfl); (case hT => decide +kernel); (case hk => exact Nat.le_of_ble_eq_true rfl))
    | ((with_reducible apply wps_loada (T := 28) (k := 4) S 1); (case hx => rfl); (case hi => rfl); (case hT => decide +kernel); (case hk => exact Nat.le_of_ble_eq_true rfl))
  go_ret2
  exact ⟨rfl, S.below⟩
set_option maxRecDepth 100000 in
set_option maxHeartbeats 4000000 in
theorem batchNil_calls (lp : Int) (s : State) (v : Value) (l : List Event) (w : World) (F F2 : Nat → Prop) (h : (Sl true Event.cells 7 v l).at_ w F) (ht : Tab.at_ w F2) (hlen : l.length ≤ 9223372036854775807) :
    Calls Tryd.prog 8 #[.agg #[.int .i64 lp, .int .i64 s.n0, .int .i64 s.n1, .int .i64 s.n2, .int .i64 s.n3, v]] w fun r w' => r = .returned (.bool true) ∧ Below w.heap.size w w' := by
  have S : St (fun _ => False) w w [Sl true Event.cells 7 v l, Tab] := ((St.init _ w).share rfl rfl ht).share rfl rfl h
  obtain ⟨ad, cp, rfl, _⟩ := (S.sl 0 rfl).elim fun _ h => h.form
  clear h ht
  by_cases h20 : l.length ≤ 20
  case neg =>
    have h21 : (20 : Int) < l.length := by omega
    go_enter Tryd.func8, Tryd.ntmps8
    go_wp2_with first
      | go_skip
      | ((with_reducible refine wpList_skip ?hw ?_); (case hw => with_unfolding_all rfl); simp only [Act.put, List.setIfInBounds_toArray, List.set_cons_succ, List.set_cons_zero])
      | ((with_reducible apply wps_boxa (E := 31) S); (case hx => rfl); clear S; intro bx wz S)
      | (go_at_call 11; refine Calls.mono (awake8_calls _ _ (S.get (i := 2) rfl).choose_spec) ?_; rintro e wz ⟨rfl, hE⟩; replace S := S.ext (Keep.of_below hE); clear hE)
      | ((with_reducible refine tot_done ?ht ?_); (case ht => kernel_rfl))
      | ((with_reducible apply wps_boxa S); (case hx => rfl); clear S; intro bz wz S)
      | ((with_reducible apply wps_box1 (v := .int _ _) S); (case hx => rfl); (case h1 => rfl); clear S; intro bz wz S)
      | ((with_reducible apply wps_box1 (v := .bool _) S); (case hx => rfl); (case h1 => rfl); clear S; intro bz wz S)
      | ((with_reducible apply wps_box1 (v := .slice _ _ _) S); (case hx => rfl); (case h1 => rfl); clear S; intro bz wz S)
      | ((with_reducible apply wps_box1 (v := .pointer _) S); (case hx => rfl); (case h1 => rfl); clear S; intro bz wz S)
      | ((with_reducible apply wps_box1 (v := .map _) S); (case hx => rfl); (case h1 => rfl); clear S; intro bz wz S)
      | ((with_reducible apply wps_box1 (v := .string _) S); (case hx => rfl); (case h1 => rfl); clear S; intro bz wz S)
      | ((with_reducible apply wps_box1 (v := .func _ _ _) S); (case hx => rfl); (case h1 => rfl); clear S; intro bz wz S)
      | ((with_reducible apply wps_alloca (E := 28) S); (case hz => exact Tryd.zeroValue28); clear S; intro bz wz S)
      | ((with_reducible apply wps_load S 0); (case hx => rfl); (case hi => rfl); (case hT => decide +kernel); (case hu => rfl))
      | ((with_reducible apply wps_loada (T := 28) (k := 4) S 0); (case hx => rfl); (case hi => rfl); (case hT => decide +kernel); (case hk => exact Nat.le_of_ble_eq_true rfl))
    go_ret
    exact ⟨rfl, S.below⟩
  case pos =>
    have h21 : (l.length : Int) ≤ 20 := by omega
    go_enter Tryd.func8, Tryd.ntmps8
    go_wp2_with first
      | go_skip
      | ((with_reducible refine wpList_skip ?hw ?_); (case hw => with_unfolding_all rfl); simp only [Act.put, List.setIfInBounds_toArray, List.set_cons_succ, List.set_cons_zero])
      | ((with_reducible apply wps_boxa (E := 31) S); (case hx => rfl); clear S; intro bx wz S)
      | (go_at_call 13; refine Calls.mono (brun_nil _ s _ _) ?_; rintro e wz ⟨rfl, hE⟩; replace S := S.ext (Keep.of_below hE); clear hE)
      | (go_at_call 21; refine Calls.mono (replay2_nil _ s _ _) ?_; rintro e wz ⟨rfl, hE⟩; replace S := S.ext (Keep.of_below hE); clear hE)
      | (go_at_call 22; refine Calls.mono (sends_nil _ s _ _) ?_; rintro e wz ⟨rfl, hE⟩; replace S := S.ext (Keep.of_below hE); clear hE)
      | (go_at_call 14; refine Calls.mono (bwrong_nil _ _ _) ?_; rintro e wz ⟨rfl, hE⟩; replace S := S.ext (Keep.of_below hE); clear hE)
      | ((with_reducible apply wps_storea (T := 28) S 0 (vs := [.int .i64 0, .int .i64 0, .int .i64 0, .int .i64 0]) (m := 4)); (case hx => rfl); (case hy => rfl); (case hi => rfl); (case hT => decide +kernel); (case hm => rfl); (case h1 => rfl); (case hn => exact Nat.le_of_ble_eq_true rfl); clear S; intro wz S; simp only [List.set_cons_zero, List.set_cons_succ, setAll, List.setIfInBounds_toArray] at S)
      | ((with_reducible apply wpList_eql_agg (t := 28) (ks := [.int .i64, .int .i64, .int .i64, .int .i64]) (b := true)); (case hx => rfl); (case hy => rfl); (case hl => kernel_rfl); (case ha => kernel_rfl); (case hg => kernel_rfl); (case hfx => rfl); (case hfy => rfl); (case hb => exact rfl))
      | (go_at_call 11; refine Calls.mono (awake8_calls _ _ (S.get (i := 4) rfl).choose_spec) ?_; rintro e wz ⟨rfl, hE⟩; replace S := S.ext (Keep.of_below hE); clear hE)
      | ((with_reducible refine tot_done ?ht ?_); (case ht => kernel_rfl))
      | ((with_reducible apply wps_boxa S); (case hx => rfl); clear S; intro bz wz S)
      | ((with_reducible apply wps_box1 (v := .int _ _) S); (case hx => rfl); (case h1 => rfl); clear S; intro bz wz S)
      | ((with_reducible apply wps_box1 (v := .bool _) S); (case hx => rfl); (case h1 => rfl); clear S; intro bz wz S)
      | ((with_reducible apply wps_box1 (v := .slice _ _ _) S); (case hx => rfl); (case h1 => rfl); clear S; intro bz wz S)
      | ((with_reducible apply wps_box1 (v := .pointer _) S); (case hx => rfl); (case h1 => rfl); clear S; intro bz wz S)
      | ((with_reducible apply wps_box1 (v := .map _) S); (case hx => rfl); (case h1 => rfl); clear S; intro bz wz S)
      | ((with_reducible apply wps_box1 (v := .string _) S); (case hx => rfl); (case h1 => rfl); clear S; intro bz wz S)
      | ((with_reducible apply wps_box1 (v := .func _ _ _) S); (case hx => rfl); (case h1 => rfl); clear S; intro bz wz S)
      | ((with_reducible apply wps_alloca (E := 28) S); (case hz => exact Tryd.zeroValue28); clear S; intro bz wz S)
      | ((with_reducible apply wps_load S 0); (case hx => rfl); (case hi => rfl); (case hT => decide +kernel); (case hu => rfl))
      | ((with_reducible apply wps_loada (T := 28) (k := 4) S 0); (case hx => rfl); (case hi => rfl); (case hT => decide +kernel); (case hk => exact Nat.le_of_ble_eq_true rfl))
      | ((with_reducible apply wps_load S 1); (case hx => rfl); (case hi => rfl); (case hT => decide +kernel); (case hu => rfl))
      | ((with_reducible apply wps_loada (T := 28) (k := 4) S 1); (case hx => rfl); (case hi => rfl); (case hT => decide +kernel); (case hk => exact Nat.le_of_ble_eq_true rfl))
      | ((with_reducible apply wps_load S 2); (case hx => rfl); (case hi => rfl); (case hT => decide +kernel); (case hu => rfl))
      | ((with_reducible apply wps_loada (T := 28) (k := 4) S 2); (case hx => rfl); (case hi => rfl); (case hT => decide +kernel); (case hk => exact Nat.le_of_ble_eq_true rfl))
    go_ret
    exact ⟨by simp, S.below⟩
end Go.Proofs.YtfiiaechippboaaDoor

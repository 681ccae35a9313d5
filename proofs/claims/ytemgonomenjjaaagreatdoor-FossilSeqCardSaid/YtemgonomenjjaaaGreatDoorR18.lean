import Derived.Test.YtemgonomenjjaaaGreatDoorR17
import Derived.Test.YtemgonomenjjaaaGreatDoorR13
import Derived.Test.YtemgonomenjjaaaGreatDoorR14
import Derived.Test.YtemgonomenjjaaaGreatDoorR08
import Derived.Test.YtemgonomenjjaaaGreatDoorR03
import Derived.Shelf.SlSortCmp.WholeK
import Derived.Shelf.SlSortCmp.Whole1
import Derived.Test.YtemgonomenjjaaaGreatDoorR06
import Derived.Test.YtemgonomenjjaaaGreatDoorR09
import Derived.Test.YtemgonomenjjaaaGreatDoorR04
import Derived.Test.YtemgonomenjjaaaGreatDoorProg
import Derived.Shelf.SlLaysF0
import Derived.KernelRfl
import Derived.Shelf.SlSortCmp.NoneTotal
/- The walk of fossil's own: a batch that shares no memory. -/
namespace Go.Proofs.YtemgonomenjjaaaGreatDoor
open Go Go.RowKit Reg Mem

def LOwnPost (b : BatE) (w : World) (e : Ending) (w' : World) : Prop :=
  ∃ ai ci ao co, e = .returned (.agg #[.int .i64 b.at_, .int .i64 b.lp, .slice ai b.ins.length ci, .int .i64 b.thn.n0, .int .i64 b.thn.n1, .int .i64 b.thn.n2, .int .i64 b.thn.n3, .slice ao b.sent.length co]) ∧
    St (fun _ => False) w w' [Own 78 Event.cells 7 (.slice ai b.ins.length ci) b.ins, Own 78 Event.cells 7 (.slice ao b.sent.length co) b.sent]
set_option maxRecDepth 100000 in
set_option maxHeartbeats 8000000 in
theorem lown_calls (x : BatV) (w : World) (F F2 : Nat → Prop) (h : (Sl true Event.cells 7 x.vi x.b.ins).at_ w F) (h2 : (Sl true Event.cells 7 x.vo x.b.sent).at_ w F2) (hn : x.b.ins.length ≤ 4294967296) (hn2 : x.b.sent.length ≤ 4294967296) :
    Calls Tryz.prog 33 #[.agg #[.int .i64 x.b.at_, .int .i64 x.b.lp, .slice x.ai x.b.ins.length x.ci, .int .i64 x.b.thn.n0, .int .i64 x.b.thn.n1, .int .i64 x.b.thn.n2, .int .i64 x.b.thn.n3, .slice x.ao x.b.sent.length x.co]] w (LOwnPost x.b w) := by
  obtain ⟨⟨at_, lp, ins, thn, sent⟩, xi, xci, xo, xco⟩ := x
  simp only [BatV.vi, BatV.vo] at *
  have S : St (fun _ => False) w w [Sl true Event.cells 7 (.slice xi ins.length xci) ins, Sl true Event.cells 7 (.slice xo sent.length xco) sent] := ((St.init _ w).share rfl rfl h2).share rfl rfl h
  clear h h2
  go_enter Tryz.func33, Tryz.ntmps33
  go_upto_region 1 with first | ((with_reducible apply wps_boxa (E := 54) S); (case hx => rfl); clear S; intro b1 wz S) | ((with_reducible apply wps_alloca (E := 54) S); (case hz => exact Tryz.zeroValue54); clear S; intro b2 wz S)
  replace S := S.pick [2, 3, 0, 1] rfl
  simp only [pick, nth] at S
  (refine wp_region_wt (soft := [0, 3]) (L := [_, _, _]) (T := [_]) S ?hm ?hB ?_); (case hm => kernel_rfl); (case hB => decide +kernel); clear S
  iterate 2
    (with_reducible apply softs_cons)
    (case hw =>
      (with_reducible apply soft_of); (case hi => rfl)
      intro T wz S
      simp only [List.cons_append, List.nil_append] at S
      go_wp2_with first | ((with_reducible refine tot_done ?ht ?_); (case ht => kernel_rfl))
      exact ⟨rfl, S⟩)
    (case hs => exact ⟨_, rfl, by kernel_rfl⟩)
  refine softs_nil ?_
  (with_reducible apply W_hard2 (i := 1) (i' := 4)); (case hn => rfl); (case hr => decide +kernel)
  focus
    intro wz S
    (with_reducible apply hard_of); (case hi => rfl)
    simp only [List.cons_append, List.nil_append] at S
    go_wp2_with first | ((with_reducible apply wps_load S 3); (case hx | hi | hu => rfl); (case hT => decide +kernel)) | ((with_reducible refine tot_done ?ht ?_); (case ht => kernel_rfl))
    refine ⟨_, S, ?_⟩
    clear S
    (with_reducible apply W_hard2 (i := 2) (i' := 4)); (case hn => rfl); (case hr => decide +kernel)
    focus
      intro wz S
      (with_reducible apply hard_of); (case hi => rfl)
      simp only [List.cons_append, List.nil_append] at S
      go_wp2_with first | (go_at_call 28; have hcz := fun w F h => clone_Ev (ad := xi) (n := ins.length) (c := xci) (xs := ins) w F h hn; (with_reducible refine Calls.mono (hcz _ _ (S.get (i := 0) rfl).choose_spec) ?_); clear hcz; rintro e wz ⟨ai, ci, rfl, _, T⟩; replace S := S.join T rfl; clear T; simp only [List.cons_append, List.nil_append] at S) | ((with_reducible refine tot_done ?ht ?_); (case ht => kernel_rfl))
      refine ⟨_, S.pick [1, 2, 3, 4, 0] rfl, ?_⟩
      clear S
      (with_reducible apply W_hard1 (i := 4)); (case hn => rfl); (case hr => decide +kernel)
      intro wz S
      (with_reducible apply hard_of); (case hi => rfl)
      simp only [List.cons_append, List.nil_append] at S
      go_wp2_with first | ((with_reducible apply wps_load S 3); (case hx | hi | hu => rfl); (case hT => decide +kernel)) | ((with_reducible refine tot_done ?ht ?_); (case ht => kernel_rfl))
      refine ⟨_, S, ?_⟩
      clear S
      (refine W_mid (f := 4) (soft := [6]) rfl ?hB ?_); (case hB => decide +kernel)
      iterate 1
        (with_reducible apply softs_cons)
        (case hw =>
          (with_reducible apply soft_of); (case hi => rfl)
          intro T wz S
          simp only [List.cons_append, List.nil_append] at S
          go_wp2_with first | ((with_reducible refine tot_done ?ht ?_); (case ht => kernel_rfl))
          exact ⟨rfl, S⟩)
        (case hs => exact ⟨_, rfl, by kernel_rfl⟩)
      refine softs_nil ?_
      (with_reducible apply W_hard1 (i := 5)); (case hn => rfl); (case hr => decide +kernel)
      intro wz S
      (with_reducible apply hard_of); (case hi => rfl)
      simp only [List.cons_append, List.nil_append] at S
      go_wp2_with first | (go_at_call 28; have hcz := fun w F h => clone_Ev (ad := xo) (n := sent.length) (c := xco) (xs := sent) w F h hn2; (with_reducible refine Calls.mono (hcz _ _ (S.get (i := 1) rfl).choose_spec) ?_); clear hcz; rintro e wz ⟨ao, co, rfl, _, T⟩; replace S := S.join T rfl; clear T; simp only [List.cons_append, List.nil_append] at S) | ((with_reducible refine tot_done ?ht ?_); (case ht => kernel_rfl))
      refine ⟨_, S.pick [1, 2, 3, 4, 5, 0] rfl, ?_⟩
      clear S
      (with_reducible apply W_hard1 (i := 7)); (case hn => rfl); (case hr => decide +kernel)
      intro wz S
      (with_reducible apply hard_of); (case hi => rfl)
      simp only [List.cons_append, List.nil_append] at S
      go_wp2_with first | ((with_reducible apply wps_store (u := (.slice ai ins.length ci)) S 3); (case hx | hy | hi | h1 => rfl); (case hn => exact Nat.le_of_ble_eq_true rfl); (case hT => decide +kernel); clear S; intro wz S; simp only [List.set_cons_succ, List.set_cons_zero, List.setIfInBounds_toArray] at S) | ((with_reducible refine tot_done ?ht ?_); (case ht => kernel_rfl))
      refine ⟨_, S, ?_⟩
      clear S
      (refine W_mid (f := 1) (soft := [8]) rfl ?hB ?_); (case hB => decide +kernel)
      iterate 1
        (with_reducible apply softs_cons)
        (case hw =>
          (with_reducible apply soft_of); (case hi => rfl)
          intro T wz S
          simp only [List.cons_append, List.nil_append] at S
          go_wp2_with first | ((with_reducible refine tot_done ?ht ?_); (case ht => kernel_rfl))
          exact ⟨rfl, S⟩)
        (case hs => exact ⟨_, rfl, by kernel_rfl⟩)
      refine softs_nil ?_
      (with_reducible apply W_hard1 (i := 9)); (case hn => rfl); (case hr => decide +kernel)
      intro wz S
      (with_reducible apply hard_of); (case hi => rfl)
      simp only [List.cons_append, List.nil_append] at S
      go_wp2_with first | ((with_reducible apply wps_store (u := (.slice ao sent.length co)) S 3); (case hx | hy | hi | h1 => rfl); (case hn => exact Nat.le_of_ble_eq_true rfl); (case hT => decide +kernel); clear S; intro wz S; simp only [List.set_cons_succ, List.set_cons_zero, List.setIfInBounds_toArray] at S) | ((with_reducible refine tot_done ?ht ?_); (case ht => kernel_rfl))
      refine ⟨_, S, ?_⟩
      clear S
      (with_reducible apply W_done); (case hn => rfl); (case hr => decide +kernel)
      intro wz S
      repeat (first | simp only at S | simp only [pick] at S | simp only [nth] at S | simp only [List.set_cons_succ] at S | simp only [List.set_cons_zero] at S | simp only [List.setIfInBounds_toArray] at S | simp only [setAll] at S | simp only [List.cons_append] at S | simp only [List.nil_append] at S | simp only [List.append_nil] at S)
    rotate_left 1
    focus
      intro wz S
      (with_reducible apply hard_of); (case hi => rfl)
      simp only [List.cons_append, List.nil_append] at S
      go_wp2_with first | ((with_reducible apply wps_load S 3); (case hx | hi | hu => rfl); (case hT => decide +kernel)) | ((with_reducible refine tot_done ?ht ?_); (case ht => kernel_rfl))
      refine ⟨_, S, ?_⟩
      clear S
      (with_reducible apply W_hard1 (i := 2)); (case hn => rfl); (case hr => decide +kernel)
      intro wz S
      (with_reducible apply hard_of); (case hi => rfl)
      simp only [List.cons_append, List.nil_append] at S
      go_wp2_with first | (go_at_call 28; have hcz := fun w F h => clone_Ev (ad := xi) (n := ins.length) (c := xci) (xs := ins) w F h hn; (with_reducible refine Calls.mono (hcz _ _ (S.get (i := 0) rfl).choose_spec) ?_); clear hcz; rintro e wz ⟨ai, ci, rfl, _, T⟩; replace S := S.join T rfl; clear T; simp only [List.cons_append, List.nil_append] at S) | ((with_reducible refine tot_done ?ht ?_); (case ht => kernel_rfl))
      refine ⟨_, S.pick [1, 2, 3, 4, 0] rfl, ?_⟩
      clear S
      (refine W_mid (f := 4) (soft := [6]) rfl ?hB ?_); (case hB => decide +kernel)
      iterate 1
        (with_reducible apply softs_cons)
        (case hw =>
          (with_reducible apply soft_of); (case hi => rfl)
          intro T wz S
          simp only [List.cons_append, List.nil_append] at S
          go_wp2_with first | ((with_reducible refine tot_done ?ht ?_); (case ht => kernel_rfl))
          exact ⟨rfl, S⟩)
        (case hs => exact ⟨_, rfl, by kernel_rfl⟩)
      refine softs_nil ?_
      (with_reducible apply W_hard1 (i := 5)); (case hn => rfl); (case hr => decide +kernel)
      intro wz S
      (with_reducible apply hard_of); (case hi => rfl)
      simp only [List.cons_append, List.nil_append] at S
      go_wp2_with first | (go_at_call 28; have hcz := fun w F h => clone_Ev (ad := xo) (n := sent.length) (c := xco) (xs := sent) w F h hn2; (with_reducible refine Calls.mono (hcz _ _ (S.get (i := 1) rfl).choose_spec) ?_); clear hcz; rintro e wz ⟨ao, co, rfl, _, T⟩; replace S := S.join T rfl; clear T; simp only [List.cons_append, List.nil_append] at S) | ((with_reducible refine tot_done ?ht ?_); (case ht => kernel_rfl))
      refine ⟨_, S.pick [1, 2, 3, 4, 5, 0] rfl, ?_⟩
      clear S
      (with_reducible apply W_hard1 (i := 7)); (case hn => rfl); (case hr => decide +kernel)
      intro wz S
      (with_reducible apply hard_of); (case hi => rfl)
      simp only [List.cons_append, List.nil_append] at S
      go_wp2_with first | ((with_reducible apply wps_store (u := (.slice ai ins.length ci)) S 3); (case hx | hy | hi | h1 => rfl); (case hn => exact Nat.le_of_ble_eq_true rfl); (case hT => decide +kernel); clear S; intro wz S; simp only [List.set_cons_succ, List.set_cons_zero, List.setIfInBounds_toArray] at S) | ((with_reducible refine tot_done ?ht ?_); (case ht => kernel_rfl))
      refine ⟨_, S, ?_⟩
      clear S
      (refine W_mid (f := 1) (soft := [8]) rfl ?hB ?_); (case hB => decide +kernel)
      iterate 1
        (with_reducible apply softs_cons)
        (case hw =>
          (with_reducible apply soft_of); (case hi => rfl)
          intro T wz S
          simp only [List.cons_append, List.nil_append] at S
          go_wp2_with first | ((with_reducible refine tot_done ?ht ?_); (case ht => kernel_rfl))
          exact ⟨rfl, S⟩)
        (case hs => exact ⟨_, rfl, by kernel_rfl⟩)
      refine softs_nil ?_
      (with_reducible apply W_hard1 (i := 9)); (case hn => rfl); (case hr => decide +kernel)
      intro wz S
      (with_reducible apply hard_of); (case hi => rfl)
      simp only [List.cons_append, List.nil_append] at S
      go_wp2_with first | ((with_reducible apply wps_store (u := (.slice ao sent.length co)) S 3); (case hx | hy | hi | h1 => rfl); (case hn => exact Nat.le_of_ble_eq_true rfl); (case hT => decide +kernel); clear S; intro wz S; simp only [List.set_cons_succ, List.set_cons_zero, List.setIfInBounds_toArray] at S) | ((with_reducible refine tot_done ?ht ?_); (case ht => kernel_rfl))
      refine ⟨_, S, ?_⟩
      clear S
      (with_reducible apply W_done); (case hn => rfl); (case hr => decide +kernel)
      intro wz S
      repeat (first | simp only at S | simp only [pick] at S | simp only [nth] at S | simp only [List.set_cons_succ] at S | simp only [List.set_cons_zero] at S | simp only [List.setIfInBounds_toArray] at S | simp only [setAll] at S | simp only [List.cons_append] at S | simp only [List.nil_append] at S | simp only [List.append_nil] at S)
  rotate_left 2
  focus
    intro wz S
    (with_reducible apply hard_of); (case hi => rfl)
    simp only [List.cons_append, List.nil_append] at S
    go_wp2_with first | ((with_reducible apply wps_load S 3); (case hx | hi | hu => rfl); (case hT => decide +kernel)) | ((with_reducible refine tot_done ?ht ?_); (case ht => kernel_rfl))
    refine ⟨_, S, ?_⟩
    clear S
    (with_reducible apply W_hard1 (i := 1)); (case hn => rfl); (case hr => decide +kernel)
    intro wz S
    (with_reducible apply hard_of); (case hi => rfl)
    simp only [List.cons_append, List.nil_append] at S
    go_wp2_with first | ((with_reducible apply wps_load S 3); (case hx | hi | hu => rfl); (case hT => decide +kernel)) | ((with_reducible refine tot_done ?ht ?_); (case ht => kernel_rfl))
    refine ⟨_, S, ?_⟩
    clear S
    (with_reducible apply W_hard1 (i := 2)); (case hn => rfl); (case hr => decide +kernel)
    intro wz S
    (with_reducible apply hard_of); (case hi => rfl)
    simp only [List.cons_append, List.nil_append] at S
    go_wp2_with first | (go_at_call 28; have hcz := fun w F h => clone_Ev (ad := xi) (n := ins.length) (c := xci) (xs := ins) w F h hn; (with_reducible refine Calls.mono (hcz _ _ (S.get (i := 0) rfl).choose_spec) ?_); clear hcz; rintro e wz ⟨ai, ci, rfl, _, T⟩; replace S := S.join T rfl; clear T; simp only [List.cons_append, List.nil_append] at S) | ((with_reducible refine tot_done ?ht ?_); (case ht => kernel_rfl))
    refine ⟨_, S.pick [1, 2, 3, 4, 0] rfl, ?_⟩
    clear S
    (refine W_mid (f := 4) (soft := [6]) rfl ?hB ?_); (case hB => decide +kernel)
    iterate 1
      (with_reducible apply softs_cons)
      (case hw =>
        (with_reducible apply soft_of); (case hi => rfl)
        intro T wz S
        simp only [List.cons_append, List.nil_append] at S
        go_wp2_with first | ((with_reducible refine tot_done ?ht ?_); (case ht => kernel_rfl))
        exact ⟨rfl, S⟩)
      (case hs => exact ⟨_, rfl, by kernel_rfl⟩)
    refine softs_nil ?_
    (with_reducible apply W_hard1 (i := 5)); (case hn => rfl); (case hr => decide +kernel)
    intro wz S
    (with_reducible apply hard_of); (case hi => rfl)
    simp only [List.cons_append, List.nil_append] at S
    go_wp2_with first | (go_at_call 28; have hcz := fun w F h => clone_Ev (ad := xo) (n := sent.length) (c := xco) (xs := sent) w F h hn2; (with_reducible refine Calls.mono (hcz _ _ (S.get (i := 1) rfl).choose_spec) ?_); clear hcz; rintro e wz ⟨ao, co, rfl, _, T⟩; replace S := S.join T rfl; clear T; simp only [List.cons_append, List.nil_append] at S) | ((with_reducible refine tot_done ?ht ?_); (case ht => kernel_rfl))
    refine ⟨_, S.pick [1, 2, 3, 4, 5, 0] rfl, ?_⟩
    clear S
    (with_reducible apply W_hard1 (i := 7)); (case hn => rfl); (case hr => decide +kernel)
    intro wz S
    (with_reducible apply hard_of); (case hi => rfl)
    simp only [List.cons_append, List.nil_append] at S
    go_wp2_with first | ((with_reducible apply wps_store (u := (.slice ai ins.length ci)) S 3); (case hx | hy | hi | h1 => rfl); (case hn => exact Nat.le_of_ble_eq_true rfl); (case hT => decide +kernel); clear S; intro wz S; simp only [List.set_cons_succ, List.set_cons_zero, List.setIfInBounds_toArray] at S) | ((with_reducible refine tot_done ?ht ?_); (case ht => kernel_rfl))
    refine ⟨_, S, ?_⟩
    clear S
    (refine W_mid (f := 1) (soft := [8]) rfl ?hB ?_); (case hB => decide +kernel)
    iterate 1
      (with_reducible apply softs_cons)
      (case hw =>
        (with_reducible apply soft_of); (case hi => rfl)
        intro T wz S
        simp only [List.cons_append, List.nil_append] at S
        go_wp2_with first | ((with_reducible refine tot_done ?ht ?_); (case ht => kernel_rfl))
        exact ⟨rfl, S⟩)
      (case hs => exact ⟨_, rfl, by kernel_rfl⟩)
    refine softs_nil ?_
    (with_reducible apply W_hard1 (i := 9)); (case hn => rfl); (case hr => decide +kernel)
    intro wz S
    (with_reducible apply hard_of); (case hi => rfl)
    simp only [List.cons_append, List.nil_append] at S
    go_wp2_with first | ((with_reducible apply wps_store (u := (.slice ao sent.length co)) S 3); (case hx | hy | hi | h1 => rfl); (case hn => exact Nat.le_of_ble_eq_true rfl); (case hT => decide +kernel); clear S; intro wz S; simp only [List.set_cons_succ, List.set_cons_zero, List.setIfInBounds_toArray] at S) | ((with_reducible refine tot_done ?ht ?_); (case ht => kernel_rfl))
    refine ⟨_, S, ?_⟩
    clear S
    (with_reducible apply W_done); (case hn => rfl); (case hr => decide +kernel)
    intro wz S
    repeat (first | simp only at S | simp only [pick] at S | simp only [nth] at S | simp only [List.set_cons_succ] at S | simp only [List.set_cons_zero] at S | simp only [List.setIfInBounds_toArray] at S | simp only [setAll] at S | simp only [List.cons_append] at S | simp only [List.nil_append] at S | simp only [List.append_nil] at S)
  all_goals
    go_wp2_with first | ((with_reducible apply wps_loada (T := 54) (k := 8) S 3); (case hx | hi => rfl); (case hk => exact Nat.le_of_ble_eq_true rfl); (case hT => decide +kernel)) | ((with_reducible apply wps_storea (T := 54) S 2 (vs := [.int .i64 at_, .int .i64 lp, .slice ai ins.length ci, .int .i64 thn.n0, .int .i64 thn.n1, .int .i64 thn.n2, .int .i64 thn.n3, .slice ao sent.length co]) (m := 8)); (case hx | hy | hi | hm | h1 => rfl); (case hn => exact Nat.le_of_ble_eq_true rfl); (case hT => decide +kernel); clear S; intro wz S; simp only [List.set_cons_zero, List.set_cons_succ, setAll, List.setIfInBounds_toArray] at S)
    (try simp only [Exit.inBlock, Exit.then]); (with_reducible apply S.ret_cell 2); (case hi | h | hp => rfl); (case hA => kernel_rfl); (case hd => rfl)
    exact ⟨ai, ci, ao, co, rfl, S.pick [4, 5] rfl⟩
end Go.Proofs.YtemgonomenjjaaaGreatDoor
/- The walks of cmp.Compare and cmp.Or at ints (beside C2). -/
namespace Go.Proofs.YtemgonomenjjaaaGreatDoor
open Go Go.RowKit Reg Mem

theorem isNaN_calls (x : Int) (w : World) : Calls Tryz.prog 89 #[.int .i64 x] w fun r w' => r = .returned (.bool false) ∧ Below w.heap.size w w' := by
  have S := St.init (fun _ => False) w
  go_enter Tryz.func89, Tryz.ntmps89
  go_wp2_with first | ((with_reducible refine tot_done ?ht ?_); (case ht => kernel_rfl))
  go_ret
  exact ⟨by simp, S.below⟩
def icmp (x y : Int) : Int := if x < y then -1 else if y < x then 1 else 0
theorem cmpInt_calls (x y : Int) (w : World) : Calls Tryz.prog 54 #[.int .i64 x, .int .i64 y] w fun r w' => r = .returned (.int .i64 (icmp x y)) ∧ Below w.heap.size w w' := by
  have S := St.init (fun _ => False) w
  by_cases h1 : x < y
  · go_enter Tryz.func54, Tryz.ntmps54
    go_wp2_with first | (go_at_call 89; refine Calls.mono (isNaN_calls _ _) ?_; rintro e wz ⟨rfl, hE⟩; replace S := S.ext (Keep.of_below hE); clear hE)
    go_ret
    exact ⟨ret_int (by unfold icmp; rw [if_pos (by omega)]), S.below⟩
  · by_cases h2 : y < x
    · go_enter Tryz.func54, Tryz.ntmps54
      go_wp2_with first | (go_at_call 89; refine Calls.mono (isNaN_calls _ _) ?_; rintro e wz ⟨rfl, hE⟩; replace S := S.ext (Keep.of_below hE); clear hE)
      go_ret
      exact ⟨ret_int (by unfold icmp; rw [if_neg (by omega), if_pos (by omega)]), S.below⟩
    · go_enter Tryz.func54, Tryz.ntmps54
      go_wp2_with first | (go_at_call 89; refine Calls.mono (isNaN_calls _ _) ?_; rintro e wz ⟨rfl, hE⟩; replace S := S.ext (Keep.of_below hE); clear hE)
      go_ret
      exact ⟨ret_int (by unfold icmp; rw [if_neg (by omega), if_neg (by omega)]), S.below⟩
def orL : List Int → Int
  | [] => 0
  | x :: l => if x ≠ 0 then x else orL l
theorem orL_at {l : List Int} {j : Nat} {x : Int} (h : ∀ (q : Nat) y, q < j → l[q]? = some y → y = 0) (hj : l[j]? = some x) (hx : x ≠ 0) : orL l = x := by
  induction l generalizing j with
  | nil => simp at hj
  | cons a l ih =>
    cases j with
    | zero => simp at hj; subst hj; simp [orL, hx]
    | succ j =>
      have ha := h 0 a (by omega) rfl
      rw [orL, if_neg (by simp [ha])]
      exact ih (j := j) (fun q y hq hy => h (q + 1) y (by omega) (by simpa using hy)) (by simpa using hj)
theorem orL_zero {l : List Int} (h : ∀ (q : Nat) y, l[q]? = some y → y = 0) : orL l = 0 := by
  induction l with
  | nil => rfl
  | cons a l ih =>
    have ha := h 0 a rfl
    rw [orL, if_neg (by simp [ha])]
    exact ih (fun q y hy => h (q + 1) y (by simpa using hy))
def OrRel (ad : Option Addr) (c : Nat) (l : List Int) (w : World) (i : Value) (wr : World) : Prop :=
  ∃ j : Nat, j ≤ l.length ∧ i = .int .i64 j ∧ (∀ (q : Nat) y, q < j → l[q]? = some y → y = 0) ∧ St (fun _ => False) w wr [Sl true intE 1 (.slice ad l.length c) l]
theorem orInt_calls (v : Value) (l : List Int) (w : World) (F : Nat → Prop) (h : (Sl true intE 1 v l).at_ w F) (hn : l.length ≤ 4294967296) : Calls Tryz.prog 53 #[v] w fun r w' => r = .returned (.int .i64 (orL l)) ∧ Below w.heap.size w w' := by
  have S : St (fun _ => False) w w [Sl true intE 1 v l] := (St.init _ w).share rfl rfl h
  obtain ⟨F1, hs⟩ := S.sl 0 rfl
  obtain ⟨ad, cp, rfl, _⟩ := hs.form
  clear hs
  go_enter Tryz.func53, Tryz.ntmps53
  go_wp2_with first | ((with_reducible apply wps_load S 3); (case hx | hi | hu => rfl); (case hT => decide +kernel))
  go_loopw [8] (fun i wr => OrRel ad cp l w i wr) (fun i _ => l.length - (intOf i).toNat)
  case atStart => exact ⟨0, Nat.zero_le _, rfl, fun q r h => by omega, S⟩
  case round =>
    clear S
    obtain ⟨j, hj, rfl, hz, S⟩ := hrel
    have Hz := Lib.hid hz
    clear hz
    by_cases hlt : j < l.length
    · obtain ⟨x, hx⟩ : ∃ x, l[j]? = some x := ⟨_, List.getElem?_eq_getElem hlt⟩
      obtain ⟨R, o, rfl⟩ : ∃ R o, ad = some ⟨R, o, none⟩ := (S.sl 0 rfl).elim fun F h => h.head (Nat.zero_lt_of_lt hlt)
      have hlt2 : (j : Int) < l.length := by omega
      have Hx := Lib.hid hx
      clear hx
      by_cases h0 : x = 0
      · go_wp2_with first | ((with_reducible apply wps_load_el S 0 (hj := Hx.out) (q := 0) (u := .int .i64 x)); (case hx | hi => rfl); (case hn => omega); (case hu => rfl); (case hT => decide +kernel))
        go_roundw
        case rel =>
          refine ⟨j + 1, by omega, by go_num, fun q r hq hr => ?_, S⟩
          by_cases e : q = j
          · subst e; rw [Hx.out] at hr; cases hr; exact h0
          · exact Hz.out q r (by omega) hr
        case measure => simp [intOf]; omega
      · go_wp2_with first | ((with_reducible apply wps_load_el S 0 (hj := Hx.out) (q := 0) (u := .int .i64 x)); (case hx | hi => rfl); (case hn => omega); (case hu => rfl); (case hT => decide +kernel))
        go_ret
        exact ⟨ret_int (orL_at Hz.out Hx.out h0).symm, S.below⟩
    · obtain rfl : j = l.length := by omega
      go_wp2_with first | ((with_reducible apply wps_load S 3); (case hx | hi | hu => rfl); (case hT => decide +kernel))
      go_ret
      exact ⟨ret_int (orL_zero fun q y hy => Hz.out q y (List.getElem?_eq_some_iff.1 hy).1 hy).symm, S.below⟩
end Go.Proofs.YtemgonomenjjaaaGreatDoor
/- The library's slices.SortFunc on a slice that is owned, as a step of the state. Over any program. -/
namespace Go.Proofs.YtemgonomenjjaaaGreatDoor.Mem
open Go Go.RowKit Reg Go.Shelf Go.Sort

/-- Blocks came, and answers were drawn: nothing else. -/
def Grew (w w' : World) : Prop := ∃ q os, w' = grow (w.drewN q) os
theorem heap_grow (w : World) (os : Array Obj) {b : Nat} (hb : b < w.heap.size) : (grow w os).heap[b]? = w.heap[b]? := by
  show (w.heap ++ os)[b]? = _
  rw [Array.getElem?_append_left hb]
theorem Grew.of_keep {w w' : World} (h : Keep (fun _ => False) w w') : Grew w w' := by
  refine ⟨w'.drawn - w.drawn, w'.heap.extract w.heap.size w'.heap.size, ?_⟩
  have hh : w'.heap = w.heap ++ w'.heap.extract w.heap.size w'.heap.size := by
    apply Array.ext_getElem?
    intro i
    by_cases hi : i < w.heap.size
    · rw [Array.getElem?_append_left hi, h.block i hi id]
    · rw [Array.getElem?_append_right (by omega), Array.getElem?_extract]
      have hs := h.size
      split
      · congr 1; omega
      · rw [Array.getElem?_eq_none (by omega)]
  have hd := h.drawn
  cases w; cases w'
  simp only [grow, World.drewN, World.mk.injEq]
  exact ⟨hh, h.tape, by simp only at hd ⊢; omega, h.os, h.output⟩
section
variable {α : Type} [Inhabited α]
theorem putCells_take {enc : α → Value} {d : Array α} {c : Array Value} (h : d.size ≤ c.size) : (putCells enc 0 d c).toList.take d.size = d.toList.map enc := by
  apply List.ext_getElem?
  intro i
  by_cases hi : i < d.size
  · rw [List.getElem?_take_of_lt hi, Array.getElem?_toList, List.getElem?_map, Array.getElem?_toList, Array.getElem?_eq_getElem hi]
    simp only [putCells, Array.getElem?_mapIdx, Array.getElem?_eq_getElem (show i < c.size by omega), Option.map_some, Nat.zero_le, Nat.zero_add, true_and, if_pos hi, Nat.sub_zero, getElem!_pos d i hi]
  · rw [List.getElem?_eq_none (by simp; omega), List.getElem?_eq_none (by simp; omega)]
theorem size_putCells {enc : α → Value} {d : Array α} {c : Array Value} {o : Nat} : (putCells enc o d c).size = c.size := by simp [putCells]
theorem heap_putRow {enc : α → Value} {w : World} {R m o : Nat} {d : Array α} {cur : Array Value} {E : TypeId} {fr : Nat × Nat} (os : Array Obj) (hR : w.heap[R]? = some (.cells cur E fr)) :
    (grow (putRow enc (Sort.ahead w m) R o d) os).heap[R]? = some (.cells (putCells enc o d cur) E fr) := by
  have hl := (Array.getElem?_eq_some_iff.1 hR).1
  rw [heap_grow _ _ (by rw [size_putRow]; exact hl)]
  show (w.heap.modify R (onCells (putCells enc o d)))[R]? = _
  rw [Array.getElem?_modify, if_pos rfl, hR]; rfl
theorem keep_putRow {enc : α → Value} {w : World} {R m o : Nat} {d : Array α} (os : Array Obj) : Keep (fun b => b = R) w (grow (putRow enc (Sort.ahead w m) R o d) os) := by
  refine ⟨rfl, rfl, rfl, ?_, fun b hb hn => ?_, Nat.le_add_right _ _⟩
  · show w.heap.size ≤ ((w.heap.modify R _) ++ os).size
    simp
  · rw [heap_grow _ _ (by rw [size_putRow]; exact hb)]
    show (w.heap.modify R _)[b]? = _
    rw [Array.getElem?_modify, if_neg (fun e => hn e.symm)]
theorem flatK_list {enc : α → List Value} {k : Nat} (hk : ∀ x, (enc x).length = k) (d : Array α) : (flatK enc k d).toList = flatE enc d.toList := by
  apply List.ext_getElem?
  intro i
  by_cases hi : i < d.size * k
  · have k0 : 0 < k := by rcases Nat.eq_zero_or_pos k with h | h; · subst h; simp at hi
                          · exact h
    have hj : i / k < d.size := (Nat.div_lt_iff_lt_mul k0).2 hi
    have e1 : (flatK enc k d).toList[i]? = some ((enc d[i / k]!)[i % k]!) := by
      rw [Array.getElem?_toList, Array.getElem?_eq_getElem (by simpa using hi), ← get_flatK enc k d i hi, getElem!_pos (flatK enc k d) i (by simpa using hi)]
    have e2 : i / k * k + i % k = i := by rw [Nat.mul_comm]; exact Nat.div_add_mod i k
    have hg := flatE_get (enc := enc) hk (xs := d.toList) (i := i / k) (x := d[i / k]) (by rw [Array.getElem?_toList, Array.getElem?_eq_getElem hj]) (i % k) (Nat.mod_lt _ k0)
    rw [e2] at hg
    rw [e1, hg, getElem!_pos d (i / k) hj, List.getElem?_eq_getElem (by rw [hk]; exact Nat.mod_lt _ k0), getElem!_pos (enc d[i / k]) (i % k) (by rw [hk]; exact Nat.mod_lt _ k0)]
  · rw [List.getElem?_eq_none (by simp; omega), List.getElem?_eq_none (by rw [flatE_length hk]; simp; omega)]
theorem perm_list {d d' : Array α} (h : PermIn 0 d.size d d') : d'.toList.Perm d.toList := by
  obtain ⟨hs, _, hp⟩ := h
  simp [← hs] at hp
  rwa [List.take_of_length_le (by simp [hs])] at hp
theorem sorted_list {lt : α → α → Bool} {d d' : Array α} (hs : d'.size = d.size) (h : SortedIn lt 0 d.size d') : d'.toList.Pairwise (fun a b => lt b a = false) := by
  rw [List.pairwise_iff_getElem]
  intro i j hi hj hij
  simp only [Array.length_toList] at hi hj
  have := h i j (Nat.zero_le _) hij (by omega)
  rwa [getElem!_pos d' i hi, getElem!_pos d' j hj] at this
end

section
variable {P : Program} {ρ : Ren} {α : Type} [Inhabited α] {E : TypeId} {enc : α → List Value} {k : Nat} {G : Nat → Prop} {w0 w : World} {L : List Asn} {i : Nat}
/-- A slice of structs, sorted. -/
theorem sortK (Ly : SlLaysF0.n6 P ρ) (aE : ∀ w, (isAgg (ρ.t 24)).run P w = .ok true w) (zE : ∀ w, (Go.sizeOf (ρ.t 24)).run P w = .ok k w) (hk : ∀ x, (enc x).length = k) (h1 : ∀ x, ∀ v ∈ enc x, v.oneCell' = true) (cf : α → α → Int) (hO : SWO (ltOf cf))
    (g : Nat) (cb : Array Value) (eg : ∀ args w, (callFunc g args).run P w = .ok (.enter g args) w) {R n c : Nat} {xs : List α} (S : St G w0 w L) (hi : L[i]? = some (Own E enc k (.slice (some ⟨R, 0, none⟩) n c) xs)) (hn : xs.length < 4611686018427387904)
    (hcmp : ∀ W, Keep (fun b => b = R) w W → ∀ x y : α, Calls P g (#[.agg (enc x).toArray, .agg (enc y).toArray] ++ cb) W fun e w' => e = .returned (.int .i64 (cf x y)) ∧ Grew W w') :
    Calls P (ρ.f 6) #[.slice (some ⟨R, 0, none⟩) n c, .func (.func g) #[] cb] w fun e w' => e = .returned (.tuple #[]) ∧ ∃ ys : List α, ys.Perm xs ∧ ys.Pairwise (fun a b => ltOf cf b a = false) ∧ St G w0 w' (L.set i (Own E enc k (.slice (some ⟨R, 0, none⟩) n c) ys)) := by
  obtain ⟨F0, hF0⟩ := S.get hi
  obtain ⟨hlen, hown⟩ := hF0.1
  rcases hown with ⟨e, _⟩ | ⟨g', cap, cur, e, _, hg, hnc, hcm, hcs, htake⟩
  · simp at e
  · simp only [Value.slice.injEq, Option.some.injEq, Addr.mk.injEq] at e
    obtain ⟨⟨rfl, _, _⟩, rfl, rfl⟩ := e
    have hRl := (Array.getElem?_eq_some_iff.1 hg).1
    have hcells := World.ownsRow.cells (show w.ownsRow 0 E k _ _ _ from hF0.1) (g := R) rfl
    have hfl : (flatK enc k xs.toArray).toList = flatE enc xs := by rw [flatK_list hk]
    have hH : HoldsK enc k w R 0 xs.toArray := fun j hj => by
      have hj' : j < (flatE enc xs).length := by rw [← hfl]; simpa using hj
      refine ⟨?_, by rw [Nat.zero_add]; exact frozen_of hg j⟩
      have := hcells j (flatE enc xs)[j] (List.getElem?_eq_getElem hj')
      rw [add_none] at this
      rw [this]
      congr 1
      have e1 : (flatK enc k xs.toArray)[j]! = (flatE enc xs)[j] := by
        rw [getElem!_pos _ j hj, ← Array.getElem_toList]
        simp only [hfl]
      exact e1.symm
    have key := AnyQ.slices_SortFunc Ly k aE zE enc hk h1 cf hO g cb R 0 c xs.toArray w eg (fun m os dk hd x y => (hcmp _ (keep_putRow os) x y).mono fun _ _ ⟨he, q, os', hw⟩ => ⟨he, q, os', hw⟩) hH hRl (by simpa using hn)
    simp only [List.size_toArray] at key
    refine key.mono ?_
    rintro e w' ⟨rfl, d', m, os, hp, hs, rfl⟩
    have hds : d'.size = xs.length := by simpa using hp.1
    refine ⟨rfl, d'.toList, by simpa using perm_list (d := xs.toArray) (by simpa using hp), sorted_list (d := xs.toArray) (by simpa using hds) (by simpa using hs), S.step hi rfl fun F hF => ⟨F, (keep_putRow os).mono (fun x _ h e => h ((hF.2 x).2 (by simp [Value.ownBlock, e]))), ⟨?_, hF.2⟩, fun x h => .inl h⟩⟩
    have hsz : (flatK enc k d').size = xs.length * k := by simp [hds]
    have hcs' : xs.length * k ≤ cur.size := by rw [hcs]; exact Nat.mul_le_mul_right k hnc
    have hll : d'.toList.length = xs.length := by simpa using hds
    refine ⟨by rw [flatE_length hk], .inr ⟨R, c, putCells id 0 (flatK enc k d') cur, by rw [hll], Nat.zero_le _, heap_putRow os hg, by rw [hll]; exact hnc, hcm, by rw [size_putCells]; exact hcs, ?_⟩⟩
    have := putCells_take (enc := id) (d := flatK enc k d') (c := cur) (by rw [hsz]; exact hcs')
    rw [hsz, List.map_id, flatK_list hk] at this
    rw [hll]; exact this
end
end Go.Proofs.YtemgonomenjjaaaGreatDoor.Mem
/- The walk of inq.Compare: a total order of events. -/
namespace Go.Proofs.YtemgonomenjjaaaGreatDoor
open Go.RowKit Reg Mem Go.Sort

def Event.tcmp (a b : Event) : Int := if a.key.lt b.key then -1 else if b.key.lt a.key then 1 else orL [icmp a.dst b.dst, icmp a.kind b.kind, icmp a.data b.data]
theorem bef_is {a b : Key} {v : Bool} (h : a.lt b = v) (w : World) : Calls Tryz.prog 52 #[.agg #[.int .i64 a.at_, .int .i64 a.src, .int .i64 a.sent, .int .i64 a.no], .agg #[.int .i64 b.at_, .int .i64 b.src, .int .i64 b.sent, .int .i64 b.no]] w fun e w' => e = .returned (.bool v) ∧ Below w.heap.size w w' := by
  subst h; exact before_calls _ _ _ _ _ _ _ _ _
set_option maxRecDepth 100000 in
set_option maxHeartbeats 4000000 in
theorem icmpare_calls (a b : Event) (w : World) : Calls Tryz.prog 30 #[.agg #[.int .i64 a.key.at_, .int .i64 a.key.src, .int .i64 a.key.sent, .int .i64 a.key.no, .int .i64 a.dst, .int .i64 a.kind, .int .i64 a.data], .agg #[.int .i64 b.key.at_, .int .i64 b.key.src, .int .i64 b.key.sent, .int .i64 b.key.no, .int .i64 b.dst, .int .i64 b.kind, .int .i64 b.data]] w fun e w' => e = .returned (.int .i64 (a.tcmp b)) ∧ Below w.heap.size w w' := by
  have S := St.init (fun _ => False) w
  cases h1 : a.key.lt b.key with
  | true =>
    have H1 := Lib.hid (bef_is h1)
    go_enter Tryz.func30, Tryz.ntmps30
    go_wp2_with first | (go_at_call 52; have hcz := fun w => H1.out w; (with_reducible refine Calls.mono (hcz _) ?_); clear hcz; rintro e wz ⟨rfl, hE⟩; replace S := S.ext (Keep.of_below hE); clear hE) | ((with_reducible apply wps_boxa S); (case hx => rfl); clear S; intro bz wz S) | ((with_reducible apply wps_loada (T := 76) (k := 4) S 0); (case hx | hi => rfl); (case hk => exact Nat.le_of_ble_eq_true rfl); (case hT => decide +kernel)) | ((with_reducible apply wps_loada (T := 76) (k := 4) S 1); (case hx | hi => rfl); (case hk => exact Nat.le_of_ble_eq_true rfl); (case hT => decide +kernel))
    go_ret
    exact ⟨ret_int (by unfold Event.tcmp; rw [if_pos h1]), S.below⟩
  | false =>
    have H1 := Lib.hid (bef_is h1)
    cases h2 : b.key.lt a.key with
    | true =>
      have H2 := Lib.hid (bef_is h2)
      go_enter Tryz.func30, Tryz.ntmps30
      go_wp2_with first | (go_at_call 52; have hcz := fun w => H1.out w; (with_reducible refine Calls.mono (hcz _) ?_); clear hcz; rintro e wz ⟨rfl, hE⟩; replace S := S.ext (Keep.of_below hE); clear hE) | (go_at_call 52; have hcz := fun w => H2.out w; (with_reducible refine Calls.mono (hcz _) ?_); clear hcz; rintro e wz ⟨rfl, hE⟩; replace S := S.ext (Keep.of_below hE); clear hE) | ((with_reducible apply wps_boxa S); (case hx => rfl); clear S; intro bz wz S) | ((with_reducible apply wps_loada (T := 76) (k := 4) S 0); (case hx | hi => rfl); (case hk => exact Nat.le_of_ble_eq_true rfl); (case hT => decide +kernel)) | ((with_reducible apply wps_loada (T := 76) (k := 4) S 1); (case hx | hi => rfl); (case hk => exact Nat.le_of_ble_eq_true rfl); (case hT => decide +kernel))
      go_ret
      exact ⟨ret_int (by unfold Event.tcmp; rw [h1, h2]; rfl), S.below⟩
    | false =>
      have H2 := Lib.hid (bef_is h2)
      have e : a.tcmp b = orL [icmp a.dst b.dst, icmp a.kind b.kind, icmp a.data b.data] := by unfold Event.tcmp; rw [h1, h2]; rfl
      rw [e]
      clear h1 h2 e
      go_enter Tryz.func30, Tryz.ntmps30
      go_wp2_with first | (go_at_call 52; have hcz := fun w => H1.out w; (with_reducible refine Calls.mono (hcz _) ?_); clear hcz; rintro e wz ⟨rfl, hE⟩; replace S := S.ext (Keep.of_below hE); clear hE) | (go_at_call 52; have hcz := fun w => H2.out w; (with_reducible refine Calls.mono (hcz _) ?_); clear hcz; rintro e wz ⟨rfl, hE⟩; replace S := S.ext (Keep.of_below hE); clear hE) | ((with_reducible apply wps_boxa S); (case hx => rfl); clear S; intro bz wz S) | ((with_reducible apply wps_loada (T := 76) (k := 4) S 0); (case hx | hi => rfl); (case hk => exact Nat.le_of_ble_eq_true rfl); (case hT => decide +kernel)) | ((with_reducible apply wps_loada (T := 76) (k := 4) S 1); (case hx | hi => rfl); (case hk => exact Nat.le_of_ble_eq_true rfl); (case hT => decide +kernel))
      (refine wp_region_w (soft := [0, 1, 2, 3, 4, 5, 6, 7, 8, 9, 10, 11, 12, 13, 14]) S ?hm ?hB ?_); (case hm => kernel_rfl); (case hB => decide +kernel); clear S
      iterate 15
        (with_reducible apply softs_cons)
        (case hw =>
          (with_reducible apply soft_of); (case hi => rfl)
          intro T wz S
          simp only [List.cons_append, List.nil_append] at S
          go_wp2_with first | (go_at_call 54; refine Calls.mono (cmpInt_calls _ _ _) ?_; rintro e wz ⟨rfl, hE⟩; replace S := S.ext (Keep.of_below hE); clear hE) | ((with_reducible refine tot_done ?ht ?_); (case ht => kernel_rfl)) | ((with_reducible apply wps_load S 0); (case hx | hi | hu => rfl); (case hT => decide +kernel)) | ((with_reducible apply wps_load S 1); (case hx | hi | hu => rfl); (case hT => decide +kernel))
          exact ⟨rfl, S⟩)
        (case hs => exact ⟨_, rfl, by kernel_rfl⟩)
      refine softs_nil ?_
      repeat'
        (first
          | ((with_reducible apply W_hard1 (i := 15)); (case hn => rfl); (case hr => decide +kernel)) | ((with_reducible apply W_hard1 (i := 16)); (case hn => rfl); (case hr => decide +kernel)) | ((with_reducible apply W_hard1 (i := 17)); (case hn => rfl); (case hr => decide +kernel)) | ((with_reducible apply W_hard2 (i := 16) (i' := 17)); (case hn => rfl); (case hr => decide +kernel)))
        all_goals
          intro wz S
          (with_reducible apply hard_of); (case hi => rfl)
          simp only [List.cons_append, List.nil_append] at S
          try simp only [pick, nth] at S
          go_wp2_with first | ((with_reducible apply wps_buildSlice (T := 64) (E := 3) (cs := #[.int .i64 (icmp a.dst b.dst), .int .i64 (icmp a.kind b.kind), .int .i64 (icmp a.data b.data)]) S); (case hr => intro w; kernel_rfl); clear S; intro bz wz S) | (go_at_call 53; refine Calls.mono (orInt_calls _ [icmp a.dst b.dst, icmp a.kind b.kind, icmp a.data b.data] _ _ (blk_sl _ intE_len (S.get (i := 2) rfl).choose_spec rfl rfl) (Nat.le_of_ble_eq_true rfl)) ?_; rintro e wz ⟨rfl, hE⟩; replace S := S.ext (Keep.of_below hE); clear hE) | ((with_reducible refine tot_done ?ht ?_); (case ht => kernel_rfl))
          first
            | refine ⟨_, S.pick [1, 2, 3, 4, 5, 6, 0] rfl, ?_⟩
            | refine ⟨_, S.pick [1, 2, 3, 4, 5, 0] rfl, ?_⟩
            | refine ⟨_, S.pick [1, 2, 3, 4, 0] rfl, ?_⟩
            | refine ⟨_, S.pick [1, 2, 3, 0] rfl, ?_⟩
            | refine ⟨_, S.pick [1, 2, 0] rfl, ?_⟩
            | refine ⟨_, S, ?_⟩
      (with_reducible apply W_done); (case hn => rfl); (case hr => decide +kernel)
      clear S
      intro wz S
      simp only [List.cons_append, List.nil_append] at S
      try simp only [pick, nth] at S
      go_wp2_with first | ((with_reducible apply wps_loada (T := 76) (k := 4) S 3); (case hx | hi => rfl); (case hk => exact Nat.le_of_ble_eq_true rfl); (case hT => decide +kernel))
      go_ret
      exact ⟨rfl, S.below⟩
theorem icmp_cases (x y : Int) : (x < y ∧ icmp x y = -1) ∨ (x = y ∧ icmp x y = 0) ∨ (y < x ∧ icmp x y = 1) := by
  unfold icmp
  rcases Int.lt_trichotomy x y with h | h | h
  · exact .inl ⟨h, by rw [if_pos h]⟩
  · exact .inr (.inl ⟨h, by rw [if_neg (by omega), if_neg (by omega)]⟩)
  · exact .inr (.inr ⟨h, by rw [if_neg (by omega), if_pos h]⟩)
theorem tcmp_neg (a b : Event) : decide (a.tcmp b < 0) = decide (evLt a b) := by
  rw [decide_eq_decide]
  have hl : ∀ k l : Key, k.lt l = decide (k.at_ < l.at_ ∨ (k.at_ = l.at_ ∧ (k.src < l.src ∨ (k.src = l.src ∧ (k.sent < l.sent ∨ (k.sent = l.sent ∧ k.no < l.no)))))) := fun k l => by
    rw [Bool.eq_iff_iff, Key.lt_iff]; simp
  unfold Event.tcmp evLt
  rw [hl, hl]
  simp only [decide_eq_true_eq]
  split
  · constructor
    · intro _; omega
    · intro _; omega
  · split
    · constructor
      · intro h; omega
      · intro _; omega
    · simp only [orL]
      rcases icmp_cases a.dst b.dst with ⟨h1, e1⟩ | ⟨h1, e1⟩ | ⟨h1, e1⟩ <;> rw [e1]
      · constructor
        · intro _; omega
        · intro _; simp
      · rcases icmp_cases a.kind b.kind with ⟨h2, e2⟩ | ⟨h2, e2⟩ | ⟨h2, e2⟩ <;> rw [e2]
        · constructor
          · intro _; omega
          · intro _; simp
        · rcases icmp_cases a.data b.data with ⟨h3, e3⟩ | ⟨h3, e3⟩ | ⟨h3, e3⟩ <;> rw [e3]
          · constructor
            · intro _; omega
            · intro _; simp
          · constructor
            · intro h; exact absurd h (by simp)
            · intro _; omega
          · constructor
            · intro h; exact absurd h (by simp)
            · intro _; omega
        · constructor
          · intro h; exact absurd h (by simp)
          · intro _; omega
      · constructor
        · intro h; exact absurd h (by simp)
        · intro _; omega
theorem swo_ev : SWO (ltOf Event.tcmp) := by
  have e : (ltOf Event.tcmp) = fun x y => decide (evLt x y) := by
    funext x y; exact tcmp_neg _ _
  rw [e]
  refine ⟨fun x => ?_, fun x y z h k => ?_, fun x y z h k => ?_⟩
  · simp [evLt_irrefl]
  · simp only [decide_eq_true_eq] at *; exact evLt_trans h k
  · simp only [decide_eq_false_iff_not] at *
    unfold evLt at *; omega
theorem sorted_ev {l ys : List Event} (hp : ys.Perm l) (hs : ys.Pairwise (fun a b => ltOf Event.tcmp b a = false)) : ys = sortT l := by
  refine sortT_eq hp (hs.imp fun {a b} h => ?_)
  have := tcmp_neg b a
  unfold ltOf at h
  rw [h] at this
  simpa using this.symm
theorem icmpare_grew (a b : Event) (w : World) : Calls Tryz.prog 30 #[.agg a.cells.toArray, .agg b.cells.toArray] w fun e w' => e = .returned (.int .i64 (a.tcmp b)) ∧ Grew w w' :=
  (icmpare_calls a b w).mono fun _ _ h => ⟨h.1, Grew.of_keep (Keep.of_below h.2)⟩
end Go.Proofs.YtemgonomenjjaaaGreatDoor
/- A slice that is owned is cut; its last element cleared. Over any program. -/
namespace Go.Proofs.YtemgonomenjjaaaGreatDoor.Mem
open Go Go.RowKit Reg
section
variable {P : Program} {ops : Array Oper} {rest : List Oper} {a : Act} {Q : Exit → Act → World → Prop} {d : Option Tmp} {tt : TypeId} {p : String} {af : Array Edge} {gd : Option (Nat × Bool)} {x y : Operand}
variable {G : Nat → Prop} {w0 w w' : World} {L : List Asn}
/-- 's[l:]', as a value. -/
theorem wps_tail {T E : TypeId} {k R n c l m : Nat} {lo : Operand} (hT : P.underlying T = some (.slice E)) (hE : ∀ w, (sizeOf E).run P w = .ok k w) (hx : a.eval x = .slice (some ⟨R, 0, none⟩) n c) (hlo : a.eval lo = .int .i64 l) (hm : n = l + m) (h1 : 0 < m) (h2 : n ≤ c)
    (next : wpList P ops Q rest (a.put d (.slice (some ⟨R, l * k, none⟩) m (c - l))) w) (hgd : gOk gd ops a = true := by with_unfolding_all rfl) :
    wpList P ops Q ({ dst := d, op := .slice T x (some lo) none none, type := tt, pos := p, after := af, guard := gd } :: rest) a w :=
  wpList_ok hgd fun K hK => by
    have hr := run_sliceAt_sl (P := P) (w := w) hT (hE w) (some ⟨R, 0, none⟩) n c l n (some (.int .i64 l)) none (.inr rfl) (.inl ⟨rfl, rfl⟩) (by omega) h2
    rw [if_neg (by omega), show n - l = m by omega] at hr
    simp only [Option.map_some, add_none, Nat.zero_add] at hr
    unfold Oper.wp execOp
    simp only [Option.map_none, Option.map_some, hx, hlo, hr, Sem.run_bind, Sem.run_pure, Result.andThen_ok]
    exact hK _ _ next
/-- The last element is cleared. -/
theorem wps_clear1 {α : Type} {T E : TypeId} {enc : α → List Value} {k bytes R n c c' m : Nat} {xs : List α} (el : Elem P T E k bytes) (hk : ∀ x, (enc x).length = k) (hone : ∀ x, ∀ u ∈ enc x, u.oneCell' = true) (z0 : α) (hz : zeroIs P E k (enc z0)) (S : St G w0 w L) (i : Nat)
    (hi : L[i]? = some (Own E enc k (.slice (some ⟨R, 0, none⟩) n c) xs)) (o : Nat) (hx : a.eval x = .slice (some ⟨R, o, none⟩) 1 c') (ho : o = m * k) (hm : xs.length = m + 1)
    (next : ∀ w', St G w0 w' (L.set i (Own E enc k (.slice (some ⟨R, 0, none⟩) n c) (xs.set m z0))) → wpList P ops Q rest (a.put d (.tuple #[])) w') (hgd : gOk gd ops a = true := by with_unfolding_all rfl) :
    wpList P ops Q ({ dst := d, op := .call { callee := .builtin .clear, args := #[x], argTypes := #[T] }, type := tt, pos := p, after := af, guard := gd } :: rest) a w :=
  wpList_ok hgd fun K hK => by
    obtain ⟨F, hF⟩ := S.get hi
    obtain ⟨cur, hO, hn⟩ := own_at hF
    obtain ⟨ei, z, h⟩ := el
    obtain ⟨i', z', g1, g2, g3, g4, g5⟩ := hz
    have e1 : ei = i' := by have := h.info; rw [g1] at this; exact (Option.some.inj this).symm
    subst e1
    have e2 : z = z' := by have := h.zero; rw [g2] at this; exact (Option.some.inj this).symm
    subst e2
    have hfit := hO.fit (i := m) (by omega)
    obtain ⟨w', hr, hb, hKp⟩ := run_clear_one h (tt := tt) (R := R) (o := o) (c := c') (w := w) hO.heap (by rw [ho]; exact hfit) (by rw [g4]; exact hone z0)
    unfold Oper.wp execOp
    simp [resolve, invoke, builtin, hx, hr, Result.andThen]
    refine hK _ _ (next _ (own_put hk S i hi (by omega) z0 hO ?_ hKp))
    rw [hb, g4, ho]
/-- 's[:u]', in its place. -/
theorem wps_cutown {α : Type} {T E : TypeId} {enc : α → List Value} {k R n c u : Nat} {hi' : Operand} {xs : List α} (hk : ∀ x, (enc x).length = k) (hT : P.underlying T = some (.slice E)) (hE : ∀ w, (sizeOf E).run P w = .ok k w) (S : St G w0 w L) (i : Nat)
    (hi : L[i]? = some (Own E enc k (.slice (some ⟨R, 0, none⟩) n c) xs)) (hx : a.eval x = .slice (some ⟨R, 0, none⟩) n c) (hu : a.eval hi' = .int .i64 u) (h1 : u ≤ xs.length)
    (next : St G w0 w (L.set i (Own E enc k (.slice (some ⟨R, 0, none⟩) u c) (xs.take u))) → wpList P ops Q rest (a.put d (.slice (some ⟨R, 0, none⟩) u c)) w) (hgd : gOk gd ops a = true := by with_unfolding_all rfl) :
    wpList P ops Q ({ dst := d, op := .slice T x none (some hi') none, type := tt, pos := p, after := af, guard := gd } :: rest) a w :=
  wpList_ok hgd fun K hK => by
    obtain ⟨F0, hF0⟩ := S.get hi
    obtain ⟨cur, hO, hn⟩ := own_at hF0
    have hle := hO.le
    have hr := run_sliceAt_sl (P := P) (w := w) hT (hE w) (some ⟨R, 0, none⟩) n c 0 u none (some (.int .i64 u)) (.inl ⟨rfl, rfl⟩) (.inr rfl) (Nat.zero_le _) (by omega)
    have e : (if c = 0 then (some ⟨R, 0, none⟩ : Option Addr) else (some ⟨R, 0, none⟩ : Option Addr).map (·.add (0 * k))) = some ⟨R, 0, none⟩ := by simp [add_none]
    rw [e, Nat.sub_zero, Nat.sub_zero] at hr
    unfold Oper.wp execOp
    simp only [Option.map_none, Option.map_some, hx, hu, hr, Sem.run_bind, Sem.run_pure, Result.andThen_ok]
    refine hK _ _ (next (S.weak hi (fun _ => rfl) fun F hF => ⟨F, fun _ hb => hb, ?_, fun x => by rw [hF.2 x]; rfl⟩))
    obtain ⟨cur, hO, hn⟩ := own_at hF
    have := (hO.cut hk u h1).own hk
    rwa [show (xs.take u).length = u by rw [List.length_take]; omega] at this
end
end Go.Proofs.YtemgonomenjjaaaGreatDoor.Mem
/- The tail of a slice that is owned is cleared. Over any program. -/
namespace Go.Proofs.YtemgonomenjjaaaGreatDoor.Mem
open Go Go.RowKit Reg
section
variable {P : Program} {ops : Array Oper} {rest : List Oper} {a : Act} {Q : Exit → Act → World → Prop} {d : Option Tmp} {tt : TypeId} {p : String} {af : Array Edge} {gd : Option (Nat × Bool)} {x y : Operand}
variable {G : Nat → Prop} {w0 w w' : World} {L : List Asn}
end
end Go.Proofs.YtemgonomenjjaaaGreatDoor.Mem
/- The walk of slices.CompactFunc of events, by their keys. -/
namespace Go.Proofs.YtemgonomenjjaaaGreatDoor
open Go Go.RowKit Reg Mem

theorem sizeEv (w : World) : (sizeOf 78).run Tryz.prog w = .ok 7 w := by kernel_rfl
def lastKey : Option Key → List Event → Option Key
  | k, [] => k
  | _, y :: l => lastKey (some y.key) l
def CompRel (R c : Nat) (l : List Event) (F : Nat → Prop) (w : World) (i : Value) (wr : World) : Prop :=
  ∃ k : Nat, k < l.length ∧ i = .int .i64 ((k : Int) + 1) ∧ Hid (once (l.take (k + 1)) = l.take (k + 1)) ∧ St F w wr [Own 78 Event.cells 7 (.slice (some ⟨R, 0, none⟩) l.length c) l]
def CompRel2 (R c : Nat) (l : List Event) (k : Nat) (F : Nat → Prop) (w : World) (i i2 : Value) (wr : World) : Prop :=
  ∃ (kk k2 : Nat) (m : List Event), i = .int .i64 ((kk : Int) + 1) ∧ i2 = .int .i64 ((k2 : Int) + 1) ∧ k + k2 + 2 ≤ l.length ∧ kk ≤ k + k2 ∧ Hid (m.take (kk + 1) = once (l.take (k + k2 + 2))) ∧ Hid (∀ j : Nat, kk + 1 ≤ j → m[j]? = l[j]?) ∧ m.length = l.length ∧
    St F w wr [Own 78 Event.cells 7 (.slice (some ⟨R, 0, none⟩) l.length c) m]
def CpPost (l : List Event) (F : Nat → Prop) (w : World) (e : Ending) (w' : World) : Prop :=
  ∃ ad c, e = .returned (.slice ad (once l).length c) ∧ St F w w' [Own 78 Event.cells 7 (.slice ad (once l).length c) (once l)]
end Go.Proofs.YtemgonomenjjaaaGreatDoor
namespace Go.Proofs.YtemgonomenjjaaaGreatDoor
open Go Go.Shelf

set_option maxRecDepth 100000
def sortEvs_ren : Go.Shelf.Ren := ⟨fun | 6 => 29 | 14 => 50 | 15 => 51 | 20 => 79 | 21 => 80 | 22 => 81 | 23 => 82 | 24 => 83 | 25 => 84 | 26 => 85 | 27 => 86 | 28 => 87 | 29 => 88 | 46 => 111 | 47 => 112 | 48 => 113 | 49 => 114 | 50 => 115 | 57 => 123 | n => n, fun | 0 => 0 | 1 => 1 | 2 => 2 | 3 => 3 | 4 => 4 | 5 => 5 | 6 => 6 | 7 => 7 | 8 => 8 | 9 => 9 | 10 => 10 | 11 => 11 | 12 => 12 | 13 => 13 | 14 => 14 | 15 => 15 | 16 => 16 | 17 => 17 | 18 => 18 | 19 => 19 | 20 => 20 | 21 => 21 | 22 => 45 | 23 => 85 | 24 => 78 | 25 => 86 | 27 => 64 | 29 => 124 | 37 => 119 | 38 => 120 | 39 => 121 | 42 => 118 | 44 => 156 | 45 => 157 | 46 => 158 | 47 => 159 | 48 => 160 | 49 => 161 | 50 => 162 | 51 => 163 | 52 => 164 | 53 => 165 | 54 => 166 | 55 => 167 | 66 => 197 | 67 => 198 | 68 => 199 | 69 => 200 | 70 => 201 | 71 => 202 | 76 => 212 | 77 => 213 | 78 => 214 | 81 => 234 | 82 => 235 | 83 => 236 | 84 => 237 | 85 => 238 | 86 => 239 | 87 => 46 | 88 => 240 | 89 => 241 | 90 => 242 | 91 => 243 | 92 => 244 | 93 => 245 | 94 => 246 | 95 => 247 | 96 => 248 | n => n, fun n => n⟩
theorem sortEvs : SlLaysF0.n6 Tryz.prog sortEvs_ren := {
  mixed := by kernel_rfl,
  f6 := ⟨Tryz.f29.name, by decide, Tryz.func29.trans (congrArg some (by kernel_rfl))⟩,
  f14 := ⟨Tryz.f50.name, by decide, Tryz.func50.trans (congrArg some (by kernel_rfl))⟩,
  f15 := Tryz.func51.trans (congrArg some (by kernel_rfl)),
  f20 := ⟨Tryz.f79.name, by decide, Tryz.func79.trans (congrArg some (by kernel_rfl))⟩,
  f21 := ⟨Tryz.f80.name, by decide, Tryz.func80.trans (congrArg some (by kernel_rfl))⟩,
  f22 := ⟨Tryz.f81.name, by decide, Tryz.func81.trans (congrArg some (by kernel_rfl))⟩,
  f23 := ⟨Tryz.f82.name, by decide, Tryz.func82.trans (congrArg some (by kernel_rfl))⟩,
  f24 := ⟨Tryz.f83.name, by decide, Tryz.func83.trans (congrArg some (by kernel_rfl))⟩,
  f25 := ⟨Tryz.f84.name, by decide, Tryz.func84.trans (congrArg some (by kernel_rfl))⟩,
  f26 := ⟨Tryz.f85.name, by decide, Tryz.func85.trans (congrArg some (by kernel_rfl))⟩,
  f27 := ⟨Tryz.f86.name, by decide, Tryz.func86.trans (congrArg some (by kernel_rfl))⟩,
  f28 := Tryz.func87.trans (congrArg some (by kernel_rfl)),
  f29 := Tryz.func88.trans (congrArg some (by kernel_rfl)),
  f46 := ⟨Tryz.f111.name, by decide, Tryz.func111.trans (congrArg some (by kernel_rfl))⟩,
  f47 := Tryz.func112.trans (congrArg some (by kernel_rfl)),
  f48 := Tryz.func113.trans (congrArg some (by kernel_rfl)),
  f49 := ⟨Tryz.f114.name, by decide, Tryz.func114.trans (congrArg some (by kernel_rfl))⟩,
  f50 := ⟨Tryz.f115.name, by decide, Tryz.func115.trans (congrArg some (by kernel_rfl))⟩,
  f57 := ⟨Tryz.f123.name, by decide, Tryz.func123.trans (congrArg some (by kernel_rfl))⟩,
  t0 := Tryz.underlying0,
  a0 := Tryz.isAgg0,
  z0 := Tryz.sizeOf0,
  v0 := Tryz.zeroValue0,
  t3 := Tryz.underlying3,
  a3 := Tryz.isAgg3,
  z3 := Tryz.sizeOf3,
  v3 := Tryz.zeroValue3,
  t4 := Tryz.underlying4,
  a4 := Tryz.isAgg4,
  z4 := Tryz.sizeOf4,
  v4 := Tryz.zeroValue4,
  t5 := Tryz.underlying5,
  a5 := Tryz.isAgg5,
  z5 := Tryz.sizeOf5,
  v5 := Tryz.zeroValue5,
  t9 := Tryz.underlying9,
  a9 := Tryz.isAgg9,
  z9 := Tryz.sizeOf9,
  v9 := Tryz.zeroValue9,
  t22 := Tryz.underlying45,
  a22 := Tryz.isAgg45,
  z22 := Tryz.sizeOf45,
  v22 := Tryz.zeroValue45,
  t25 := Tryz.underlying86,
  a25 := Tryz.isAgg86,
  z25 := Tryz.sizeOf86,
  v25 := Tryz.zeroValue86,
  t39 := Tryz.underlying121,
  a39 := Tryz.isAgg121,
  z39 := Tryz.sizeOf121,
  v39 := Tryz.zeroValue121,
  t45 := Tryz.underlying157,
  a45 := Tryz.isAgg157,
  z45 := Tryz.sizeOf157,
  v45 := Tryz.zeroValue157,
  t46 := Tryz.underlying158,
  a46 := Tryz.isAgg158,
  z46 := Tryz.sizeOf158,
  v46 := Tryz.zeroValue158,
  t50 := Tryz.underlying162,
  a50 := Tryz.isAgg162,
  z50 := Tryz.sizeOf162,
  v50 := Tryz.zeroValue162,
  t53 := Tryz.underlying165,
  a53 := Tryz.isAgg165,
  z53 := Tryz.sizeOf165,
  v53 := Tryz.zeroValue165,
  t55 := Tryz.underlying167,
  a55 := Tryz.isAgg167,
  z55 := Tryz.sizeOf167,
  v55 := Tryz.zeroValue167,
  t66 := Tryz.underlying197,
  a66 := Tryz.isAgg197,
  z66 := Tryz.sizeOf197,
  v66 := Tryz.zeroValue197,
  t70 := Tryz.underlying201,
  a70 := Tryz.isAgg201,
  z70 := Tryz.sizeOf201,
  v70 := Tryz.zeroValue201,
  t76 := Tryz.underlying212,
  a76 := Tryz.isAgg212,
  z76 := Tryz.sizeOf212,
  v76 := Tryz.zeroValue212,
  t77 := Tryz.underlying213,
  a77 := Tryz.isAgg213,
  z77 := Tryz.sizeOf213,
  v77 := Tryz.zeroValue213 }
end Go.Proofs.YtemgonomenjjaaaGreatDoor
/- slices.SortFunc of events by inq.Compare; the walk of a model's rules. -/
namespace Go.Proofs.YtemgonomenjjaaaGreatDoor
open Go Go.RowKit Reg Mem Go.Shelf Go.Sort

set_option maxRecDepth 100000 in
/-- Events sorted by inq.Compare. -/
theorem sortev_calls {G : Nat → Prop} {w0 w : World} {L : List Asn} (i : Nat) {v : Value} {l : List Event} (S : St G w0 w L) (hi : L[i]? = some (Own 78 Event.cells 7 v l)) (hn : l.length ≤ 65536) :
    Calls Tryz.prog 29 #[v, .func (.func 30) #[] #[]] w fun e w' => e = .returned (.tuple #[]) ∧ St G w0 w' (L.set i (Own 78 Event.cells 7 v (sortT l))) := by
  obtain ⟨ad, c, rfl, _⟩ := (S.ownsl ecells i hi).elim fun _ h => h.form
  by_cases h0 : l.length = 0
  · obtain rfl : l = [] := List.eq_nil_of_length_eq_zero h0
    refine Calls.mono (AnyF.slices_SortFunc_none (P := Tryz.prog) (ρ := sortEvs_ren) { sortEvs with } _ _ _ _) ?_
    rintro e wz ⟨rfl, rfl⟩
    refine ⟨rfl, ?_⟩
    have e : L.set i (Own 78 Event.cells 7 (.slice ad ([] : List Event).length c) (sortT [])) = L := by
      obtain ⟨h1, h2⟩ := List.getElem?_eq_some_iff.1 hi
      rw [show sortT [] = [] from rfl, ← h2, List.set_getElem_self]
    rw [e]
    exact S
  · obtain ⟨R, c', e⟩ := own_hd i S hi (by omega)
    simp only [Value.slice.injEq] at e
    obtain ⟨rfl, _, rfl⟩ := e
    refine Calls.mono (sortK (P := Tryz.prog) (ρ := sortEvs_ren) (i := i) (enc := Event.cells) (k := 7) sortEvs (fun w => by kernel_rfl) sizeEv ecells eone Event.tcmp swo_ev 30 #[] (fun _ _ => rfl) S hi (by omega) (fun W _ x y => icmpare_grew x y W)) ?_
    rintro e wz ⟨rfl, ys, hp2, hs2, S2⟩
    rw [sorted_ev hp2 hs2] at S2
    exact ⟨rfl, S2⟩
def RRunPost (s2 : State) (out : List Event) (w : World) (e : Ending) (w' : World) : Prop :=
  ∃ ad cp, e = .returned (.tuple #[.agg #[.int .i64 s2.n0, .int .i64 s2.n1, .int .i64 s2.n2, .int .i64 s2.n3], .slice ad out.length cp]) ∧ St (fun _ => False) w w' [Own 78 Event.cells 7 (.slice ad out.length cp) out]
theorem sortT_len (l : List Event) : (sortT l).length = l.length := (sortT_perm l).length_eq
end Go.Proofs.YtemgonomenjjaaaGreatDoor
/- A configuration out of its parts. -/
namespace Go.Proofs.YtemgonomenjjaaaGreatDoor
open Go Go.RowKit Reg Mem

theorem cfg_any {vP vL vS : Value} {hs : List Value} {c : Cfg} {w : World} {F1 F2 F3 F4 : Nat → Prop} (h1 : (Sl true vcell 1 vP hs).at_ w F1) (h2 : (Sl true Place.cells 5 vL c.lps).at_ w F2) (h3 : (Sl true Start.cells 4 vS c.starts).at_ w F3) (h4 : (Sls true Instr.cells 5 hs c.programs).at_ w F4) :
    (CfgA true [vP, vL, vS, .int .i64 c.fin, .int .i64 c.fuel, .int .i64 c.fan] hs c).at_ w (fun b => b < w.heap.size) :=
  ⟨⟨⟨vP, vL, vS, rfl, h1.1.mono h1.2, h2.1.mono h2.2, h3.1.mono h3.2⟩, h4.1.mono h4.2⟩, fun _ h => h⟩
theorem sls_one {α : Type} {enc : α → List Value} {k : Nat} {v : Value} {xs : List α} {w : World} {F : Nat → Prop} (h : (Sl true enc k v xs).at_ w F) : (Sls true enc k [v] [xs]).at_ w F :=
  ⟨⟨rfl, fun i u ys hu hy => by
    cases i with
    | zero => simp at hu hy; subst hu; subst hy; exact h.1
    | succ i => simp at hu⟩, h.2⟩
end Go.Proofs.YtemgonomenjjaaaGreatDoor

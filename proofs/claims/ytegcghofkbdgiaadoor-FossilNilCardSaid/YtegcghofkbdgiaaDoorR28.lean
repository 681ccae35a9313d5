import Derived.Test.YtegcghofkbdgiaaDoorR27
import Derived.Test.YtegcghofkbdgiaaDoorR26
/- The walk of the law's awake (chapter 16). -/
namespace Go.Proofs.YtegcghofkbdgiaaDoor
open Go Go.RowKit Reg Mem

def wk16 : Cfg := ⟨[[]], [⟨0, ⟨0, 0, 0, 0⟩⟩, ⟨0, ⟨0, 0, 0, 0⟩⟩], [], 9, 1, 0⟩
def wk16l : List Event := [⟨⟨3, 0, -1, 0⟩, 1, 0, 0⟩, ⟨⟨2, 0, -1, 0⟩, 0, 0, 0⟩]
theorem wk16_ok : cfgE wk16 = 0 := by decide +kernel
theorem wk16_mid : Mid wk16 := ⟨by decide, by decide, by decide⟩
theorem wk16_mid2 : ∀ p ∈ wk16.programs, p.length ≤ 65536 := by decide
theorem wk16_fine : Fine wk16.lps.length 0 5 wk16l := wrongL_fine.1 (by decide +kernel)
theorem wk16_run : (timesL wk16 (sortT wk16l) (newL wk16).ss).2.map (fun b => (b.at_, b.lp)) = [(2, 0), (3, 1)] := by decide +kernel
set_option maxRecDepth 100000 in
set_option maxHeartbeats 8000000 in
theorem awake16_calls (w : World) (F : Nat → Prop) (ht : Tab.at_ w F) : Calls Tryd.prog 7 #[] w fun r w' => r = .returned (.bool true) ∧ Below w.heap.size w w' := by
  have S : St (fun _ => False) w w [Tab] := (St.init _ w).share rfl rfl ht
  clear ht
  replace S := (S.nil 107 Start.cells 4).nil 114 Instr.cells 5
  obtain ⟨bs, HBS⟩ : ∃ bs, Hid ((timesL wk16 (sortT wk16l) (newL wk16).ss).2 = bs) := ⟨_, rfl⟩
  obtain ⟨g1, HG1⟩ : ∃ g, Hid (comL wk16 (newL wk16) 5 wk16l = g) := ⟨_, rfl⟩
  have HM : Hid (bs.map (fun b => (b.at_, b.lp)) = [(2, 0), (3, 1)]) := Lib.hid (by rw [← HBS.out]; exact wk16_run)
  have HC := Lib.hid fun (X R : Nat) (vs hs : List Value) (v : Value) (w : World) (F : Nat → Prop) (S0 : St F w w [logA X R (newL wk16), Sl true Event.cells 7 v wk16l, ModA true 118 R vs hs wk16, Tab]) =>
    commit_calls X R vs hs wk16 (newL wk16) 5 v wk16l w F S0 wk16_ok (by decide) rfl (by decide) (by decide) wk16_fine
  rw [HBS.out, HG1.out] at HC
  have HW := Lib.hid fun (X R : Nat) (v : Value) (w : World) (F : Nat → Prop) (S0 : St F w w [logA X R g1, Sl true Event.cells 7 v []]) =>
    commit_wrong X R g1 4 v [] w F S0 (by decide) 18 (by rw [← HG1.out]; unfold wrongL; rw [if_pos (.inl (by decide))]) (by decide)
  go_enter Tryd.func7, Tryd.ntmps7
  go_wp2_with first | go_skip | ((with_reducible refine wpList_skip ?hw ?_); (case hw => with_unfolding_all rfl); simp only [Act.put, List.setIfInBounds_toArray, List.set_cons_succ, List.set_cons_zero]) | ((with_reducible apply wps_buildSlice (T := 22) (E := 84) (cs := #[.slice none 0 0]) S); (case hr => intro w; kernel_rfl); clear S; intro bh wz S) | ((with_reducible apply wps_buildSlice (T := 23) (E := 76) (cs := #[.int .i64 0, .int .i64 0, .int .i64 0, .int .i64 0, .int .i64 0, .int .i64 0, .int .i64 0, .int .i64 0, .int .i64 0, .int .i64 0]) S); (case hr => intro w; kernel_rfl); clear S; intro bp wz S) | ((with_reducible refine tot_done ?ht ?_); (case ht => kernel_rfl)) | ((with_reducible apply wps_load S 0); (case hx | hi | hu => rfl); (case hT => decide +kernel))
  have hcfg : (CfgA true [.slice (some ⟨bh, 0, none⟩) 1 1, .slice (some ⟨bp, 0, none⟩) 2 2, .slice none 0 0, .int .i64 9, .int .i64 1, .int .i64 0] [.slice none 0 0] wk16).at_ wz (fun b => b < wz.heap.size) :=
    cfg_any (c := wk16) (blk_sl (n := 1) [.slice none 0 0] vcells (S.get (i := 1) rfl).choose_spec rfl rfl) (blk_sl (n := 2) wk16.lps plcells (S.get (i := 0) rfl).choose_spec rfl rfl) (own_sl (sh := true) stcells (S.get (i := 3) rfl).choose_spec)
      (sls_one (own_sl (sh := true) incells (S.get (i := 2) rfl).choose_spec))
  refine Calls.mono (new_calls _ _ wk16 _ _ _ hcfg (S.get (i := 4) rfl).choose_spec wk16_mid wk16_mid2) ?_
  clear hcfg
  rintro e wz (⟨h, _⟩ | ⟨_, R, vs, hs, rfl, T⟩)
  · exact absurd wk16_ok h
  replace S := ((S.join T rfl).modShare 0 rfl).pick [0, 5] rfl
  repeat (first | simp only at S | simp only [pick] at S | simp only [nth] at S | simp only [List.set_cons_succ] at S | simp only [List.set_cons_zero] at S | simp only [List.setIfInBounds_toArray] at S | simp only [setAll] at S | simp only [List.cons_append] at S | simp only [List.nil_append] at S | simp only [List.append_nil] at S)
  clear T
  go_upto_region 5 with first | go_skip | ((with_reducible refine wpList_skip ?hw ?_); (case hw => with_unfolding_all rfl); simp only [Act.put, List.setIfInBounds_toArray, List.set_cons_succ, List.set_cons_zero]) | (go_at_call 12; refine Calls.mono (lnew_calls R vs hs wk16 _ _ (S.get (i := 0) rfl).choose_spec (by decide)) ?_; rintro e wz ⟨X, rfl, T⟩; replace S := S.join T rfl; clear T; simp only [List.cons_append, List.nil_append] at S) | ((with_reducible refine tot_done ?ht ?_); (case ht => kernel_rfl)) | ((with_reducible apply wps_load S 0); (case hx | hi | hu => rfl); (case hT => decide +kernel))
  go_upto_region 6 with first | go_skip | ((with_reducible refine wpList_skip ?hw ?_); (case hw => with_unfolding_all rfl); simp only [Act.put, List.setIfInBounds_toArray, List.set_cons_succ, List.set_cons_zero]) | ((with_reducible apply wps_buildSlice (T := 29) (E := 52) (cs := #[.int .i64 3, .int .i64 0, .int .i64 (-1), .int .i64 0, .int .i64 1, .int .i64 0, .int .i64 0, .int .i64 2, .int .i64 0, .int .i64 (-1), .int .i64 0, .int .i64 0, .int .i64 0, .int .i64 0]) S); (case hr => intro w; kernel_rfl); clear S; intro be wz S) | (go_at_call 13; replace S := S.weak (i := 0) (A' := Sl true Event.cells 7 (.slice (some ⟨be, 0, none⟩) 2 2) wk16l) rfl (fun e => by cases e) (fun F h => ⟨F, fun _ hb => hb, blk_sl (n := 2) wk16l ecells h rfl rfl⟩); simp only [List.set_cons_zero] at S; obtain ⟨Fz, hF, hBk⟩ := S.lend [1] [0, 2, 3] [0, 2, 3] rfl rfl rfl; simp only [List.cons_append, List.nil_append, pick, nth] at hF hBk; refine Calls.mono (HC.out X R vs hs _ _ _ hF) ?_; rintro e wz ⟨ar, cr, lb, rfl, hlb, T⟩; replace S := hBk _ _ T rfl; clear hBk hF T; simp only [List.cons_append, List.nil_append] at S) | ((with_reducible refine tot_done ?ht ?_); (case ht => kernel_rfl)) | ((with_reducible apply wps_load S 0); (case hx | hi | hu => rfl); (case hT => decide +kernel))
  replace S := (S.nil 52 Event.cells 7).freeze true 0 ecells rfl
  simp only [List.set_cons_zero] at S
  have hbl : bs.length = 2 := by have := congrArg List.length HM.out; rw [List.length_map] at this; exact this
  rw [hbl] at S ⊢
  clear hbl
  obtain ⟨x0, x1, rfl⟩ : ∃ x0 x1, lb = [x0, x1] := by
    have h1 : lb.length = 2 := by have := congrArg List.length (hlb ▸ HM.out); simpa using this
    match lb, h1 with
    | [a, b], _ => exact ⟨a, b, rfl⟩
  have hm := HM.out
  rw [← hlb] at hm
  simp only [List.map_cons, List.map_nil, List.cons.injEq, Prod.mk.injEq, and_true] at hm
  have f0 : (x0.b.at_ == 2) = true := by simp [hm.1.1]
  have f1 : (x0.b.lp == 0) = true := by simp [hm.1.2]
  have f2 : (x1.b.at_ == 3) = true := by simp [hm.2.1]
  have f3 : (x1.b.lp == 1) = true := by simp [hm.2.2]
  obtain ⟨RB, cB, e⟩ := own_hd 2 S rfl (by simp)
  simp only [Value.slice.injEq] at e
  obtain ⟨rfl, hq, rfl⟩ := e
  clear hm hlb HM hq
  have hj0 : ([x0, x1] : List BatV)[0]? = some x0 := rfl
  have hj1 : ([x0, x1] : List BatV)[1]? = some x1 := rfl
  have Hj0 := Lib.hid hj0
  have Hj1 := Lib.hid hj1
  clear hj0 hj1
  go_wp2_with first | go_skip | ((with_reducible refine wpList_skip ?hw ?_); (case hw => with_unfolding_all rfl); simp only [Act.put, List.setIfInBounds_toArray, List.set_cons_succ, List.set_cons_zero]) | (go_at_call 13; obtain ⟨Fz, hF, hBk⟩ := S.lend [1] [0] [2] rfl rfl rfl; simp only [List.cons_append, List.nil_append, pick, nth] at hF hBk; refine Calls.mono (HW.out X R _ _ _ hF) ?_; rintro e wz ⟨rfl, T⟩; replace S := hBk _ _ T rfl; clear hBk hF T; simp only [List.cons_append, List.nil_append] at S) | ((with_reducible apply wps_load_own bvcells S 1 (hj := Hj0.out) (q := 0) (u := .int .i64 x0.b.at_)); (case hx | hi => rfl); (case hn => omega); (case hu => rfl); (case hT => decide +kernel)) | ((with_reducible apply wps_load_own bvcells S 1 (hj := Hj0.out) (q := 1) (u := .int .i64 x0.b.lp)); (case hx | hi => rfl); (case hn => omega); (case hu => rfl); (case hT => decide +kernel)) | ((with_reducible apply wps_load_own bvcells S 1 (hj := Hj1.out) (q := 0) (u := .int .i64 x1.b.at_)); (case hx | hi => rfl); (case hn => omega); (case hu => rfl); (case hT => decide +kernel)) | ((with_reducible apply wps_load_own bvcells S 1 (hj := Hj1.out) (q := 1) (u := .int .i64 x1.b.lp)); (case hx | hi => rfl); (case hn => omega); (case hu => rfl); (case hT => decide +kernel)) | ((with_reducible refine tot_done ?ht ?_); (case ht => kernel_rfl)) | ((with_reducible apply wps_load S 0); (case hx | hi | hu => rfl); (case hT => decide +kernel))
  go_ret
  exact ⟨rfl, S.below⟩
end Go.Proofs.YtegcghofkbdgiaaDoor

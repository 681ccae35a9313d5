import Derived.Test.YtfiiaechippboaaDoorC4
import Derived.Test.YtfiiaechippboaaDoorStab6
/- The walks of a model's methods, at a model and at nil. -/
namespace Go.Proofs.YtfiiaechippboaaDoor
open Go Go.RowKit Reg Mem

section
variable (R : Nat) (vs hs : List Value) (c : Cfg) (w : World) (F : Nat → Prop)
theorem has_nil (lp : Int) : Calls Tryd.prog 47 #[.pointer none, .int .i64 lp] w fun r w' => r = .returned (.bool false) ∧ Below w.heap.size w w' := by
  have S := St.init (fun _ => False) w
  go_enter Tryd.func47, Tryd.ntmps47
  go_wp2_with first
    | go_skip
    | ((with_reducible refine wpList_skip ?hw ?_); (case hw => with_unfolding_all rfl); simp only [Act.put, List.setIfInBounds_toArray, List.set_cons_succ, List.set_cons_zero])
    | ((with_reducible refine tot_done ?ht ?_); (case ht => kernel_rfl))
    | ((with_reducible apply wps_load S 0); (case hx => rfl); (case hi => rfl); (case hT => decide +kernel); (case hu => rfl))
  go_ret
  exact ⟨by simp, S.below⟩
set_option maxRecDepth 100000 in
theorem has_calls (lp : Int) (h : (ModA true 93 R vs hs c).at_ w F) : Calls Tryd.prog 47 #[.pointer (some ⟨R, 0, none⟩), .int .i64 lp] w fun r w' => r = .returned (.bool (decide (0 ≤ lp ∧ lp < c.lps.length))) ∧ Below w.heap.size w w' := by
  have S : St (fun _ => False) w w [ModA true 93 R vs hs c] := (St.init _ w).share rfl rfl h
  clear h
  replace S := S.modBlk 0 rfl
  obtain ⟨aP, cP, aL, cL, aS, cS, rfl, hlen, S⟩ := (S.modCfg 1 rfl).cfg 0 rfl
  replace S := S.pick [5] rfl
  simp only [pick, nth] at S
  by_cases h1 : 0 ≤ lp
  · go_enter Tryd.func47, Tryd.ntmps47
    go_wp2_with first
      | go_skip
      | ((with_reducible refine wpList_skip ?hw ?_); (case hw => with_unfolding_all rfl); simp only [Act.put, List.setIfInBounds_toArray, List.set_cons_succ, List.set_cons_zero])
      | ((with_reducible refine tot_done ?ht ?_); (case ht => kernel_rfl))
      | ((with_reducible apply wps_load S 0); (case hx => rfl); (case hi => rfl); (case hT => decide +kernel); (case hu => rfl))
    go_ret
    exact ⟨ret_bool (by simp [h1]), S.below⟩
  · go_enter Tryd.func47, Tryd.ntmps47
    go_wp2_with first
      | go_skip
      | ((with_reducible refine wpList_skip ?hw ?_); (case hw => with_unfolding_all rfl); simp only [Act.put, List.setIfInBounds_toArray, List.set_cons_succ, List.set_cons_zero])
      | ((with_reducible refine tot_done ?ht ?_); (case ht => kernel_rfl))
      | ((with_reducible apply wps_load S 0); (case hx => rfl); (case hi => rfl); (case hT => decide +kernel); (case hu => rfl))
    go_ret
    exact ⟨ret_bool (by simp; omega), S.below⟩
theorem lps_nil : Calls Tryd.prog 18 #[.pointer none] w fun r w' => r = .returned (.int .i64 0) ∧ Below w.heap.size w w' := by
  have S := St.init (fun _ => False) w
  go_enter Tryd.func18, Tryd.ntmps18
  go_wp2_with first
    | ((with_reducible refine tot_done ?ht ?_); (case ht => kernel_rfl))
    | ((with_reducible apply wps_load S 0); (case hx => rfl); (case hi => rfl); (case hT => decide +kernel); (case hu => rfl))
  go_ret
  exact ⟨by simp, S.below⟩
set_option maxRecDepth 100000 in
theorem lps_calls (h : (ModA true 93 R vs hs c).at_ w F) : Calls Tryd.prog 18 #[.pointer (some ⟨R, 0, none⟩)] w fun r w' => r = .returned (.int .i64 (c.lps.length : Int)) ∧ Below w.heap.size w w' := by
  have S : St (fun _ => False) w w [ModA true 93 R vs hs c] := (St.init _ w).share rfl rfl h
  clear h
  replace S := S.modBlk 0 rfl
  obtain ⟨aP, cP, aL, cL, aS, cS, rfl, hlen, S⟩ := (S.modCfg 1 rfl).cfg 0 rfl
  replace S := S.pick [5] rfl
  simp only [pick, nth] at S
  go_enter Tryd.func18, Tryd.ntmps18
  go_wp2_with first
    | ((with_reducible refine tot_done ?ht ?_); (case ht => kernel_rfl))
    | ((with_reducible apply wps_load S 0); (case hx => rfl); (case hi => rfl); (case hT => decide +kernel); (case hu => rfl))
  go_ret
  exact ⟨by simp, S.below⟩
theorem end_nil : Calls Tryd.prog 19 #[.pointer none] w fun r w' => r = .returned (.int .i64 0) ∧ Below w.heap.size w w' := by
  have S := St.init (fun _ => False) w
  go_enter Tryd.func19, Tryd.ntmps19
  go_wp2_with first
    | ((with_reducible refine tot_done ?ht ?_); (case ht => kernel_rfl))
    | ((with_reducible apply wps_load S 0); (case hx => rfl); (case hi => rfl); (case hT => decide +kernel); (case hu => rfl))
  go_ret
  exact ⟨by simp, S.below⟩
set_option maxRecDepth 100000 in
theorem end_calls (h : (ModA true 93 R vs hs c).at_ w F) : Calls Tryd.prog 19 #[.pointer (some ⟨R, 0, none⟩)] w fun r w' => r = .returned (.int .i64 c.fin) ∧ Below w.heap.size w w' := by
  have S : St (fun _ => False) w w [ModA true 93 R vs hs c] := (St.init _ w).share rfl rfl h
  clear h
  replace S := S.modBlk 0 rfl
  obtain ⟨aP, cP, aL, cL, aS, cS, rfl, hlen, S⟩ := (S.modCfg 1 rfl).cfg 0 rfl
  replace S := S.pick [5] rfl
  simp only [pick, nth] at S
  go_enter Tryd.func19, Tryd.ntmps19
  go_wp2_with first
    | ((with_reducible refine tot_done ?ht ?_); (case ht => kernel_rfl))
    | ((with_reducible apply wps_load S 0); (case hx => rfl); (case hi => rfl); (case hT => decide +kernel); (case hu => rfl))
  go_ret
  exact ⟨by simp, S.below⟩
theorem fuel_nil : Calls Tryd.prog 33 #[.pointer none] w fun r w' => r = .returned (.int .i64 0) ∧ Below w.heap.size w w' := by
  have S := St.init (fun _ => False) w
  go_enter Tryd.func33, Tryd.ntmps33
  go_wp2_with first
    | ((with_reducible refine tot_done ?ht ?_); (case ht => kernel_rfl))
    | ((with_reducible apply wps_load S 0); (case hx => rfl); (case hi => rfl); (case hT => decide +kernel); (case hu => rfl))
  go_ret
  exact ⟨by simp, S.below⟩
set_option maxRecDepth 100000 in
theorem fuel_calls (h : (ModA true 93 R vs hs c).at_ w F) : Calls Tryd.prog 33 #[.pointer (some ⟨R, 0, none⟩)] w fun r w' => r = .returned (.int .i64 c.fuel) ∧ Below w.heap.size w w' := by
  have S : St (fun _ => False) w w [ModA true 93 R vs hs c] := (St.init _ w).share rfl rfl h
  clear h
  replace S := S.modBlk 0 rfl
  obtain ⟨aP, cP, aL, cL, aS, cS, rfl, hlen, S⟩ := (S.modCfg 1 rfl).cfg 0 rfl
  replace S := S.pick [5] rfl
  simp only [pick, nth] at S
  go_enter Tryd.func33, Tryd.ntmps33
  go_wp2_with first
    | ((with_reducible refine tot_done ?ht ?_); (case ht => kernel_rfl))
    | ((with_reducible apply wps_load S 0); (case hx => rfl); (case hi => rfl); (case hT => decide +kernel); (case hu => rfl))
  go_ret
  exact ⟨by simp, S.below⟩
theorem fan_nil : Calls Tryd.prog 20 #[.pointer none] w fun r w' => r = .returned (.int .i64 0) ∧ Below w.heap.size w w' := by
  have S := St.init (fun _ => False) w
  go_enter Tryd.func20, Tryd.ntmps20
  go_wp2_with first
    | ((with_reducible refine tot_done ?ht ?_); (case ht => kernel_rfl))
    | ((with_reducible apply wps_load S 0); (case hx => rfl); (case hi => rfl); (case hT => decide +kernel); (case hu => rfl))
  go_ret
  exact ⟨by simp, S.below⟩
set_option maxRecDepth 100000 in
theorem fan_calls (h : (ModA true 93 R vs hs c).at_ w F) : Calls Tryd.prog 20 #[.pointer (some ⟨R, 0, none⟩)] w fun r w' => r = .returned (.int .i64 c.fan) ∧ Below w.heap.size w w' := by
  have S : St (fun _ => False) w w [ModA true 93 R vs hs c] := (St.init _ w).share rfl rfl h
  clear h
  replace S := S.modBlk 0 rfl
  obtain ⟨aP, cP, aL, cL, aS, cS, rfl, hlen, S⟩ := (S.modCfg 1 rfl).cfg 0 rfl
  replace S := S.pick [5] rfl
  simp only [pick, nth] at S
  go_enter Tryd.func20, Tryd.ntmps20
  go_wp2_with first
    | ((with_reducible refine tot_done ?ht ?_); (case ht => kernel_rfl))
    | ((with_reducible apply wps_load S 0); (case hx => rfl); (case hi => rfl); (case hT => decide +kernel); (case hu => rfl))
  go_ret
  exact ⟨by simp, S.below⟩
/-- The state of a process that is not there. -/
def state0 : List Value := [.int .i64 0, .int .i64 0, .int .i64 0, .int .i64 0]
def State.cells (s : State) : List Value := [.int .i64 s.n0, .int .i64 s.n1, .int .i64 s.n2, .int .i64 s.n3]
set_option maxRecDepth 100000 in
theorem program_nil (lp : Int) : Calls Tryd.prog 30 #[.pointer none, .int .i64 lp] w fun r w' => r = .returned (.slice none 0 0) ∧ Below w.heap.size w w' := by
  have S := St.init (fun _ => False) w
  go_enter Tryd.func30, Tryd.ntmps30
  go_wp2_with first
    | (go_at_call 47; refine Calls.mono (has_nil _ _) ?_; rintro e wz ⟨rfl, hE⟩; replace S := S.ext (Keep.of_below hE); clear hE)
    | ((with_reducible refine tot_done ?ht ?_); (case ht => kernel_rfl))
    | ((with_reducible apply wps_text S); (case hm => kernel_rfl); (case hB => decide +kernel); clear S; intro wz S)
    | ((with_reducible apply wps_load S 0); (case hx => rfl); (case hi => rfl); (case hT => decide +kernel); (case hu => rfl))
  go_ret
  exact ⟨by simp, S.below⟩
set_option maxRecDepth 100000 in
theorem program_out (lp : Int) (h : (ModA true 93 R vs hs c).at_ w F) (hlp : ¬ (0 ≤ lp ∧ lp < c.lps.length)) : Calls Tryd.prog 30 #[.pointer (some ⟨R, 0, none⟩), .int .i64 lp] w fun r w' => r = .returned (.slice none 0 0) ∧ Below w.heap.size w w' := by
  have S : St (fun _ => False) w w [ModA true 93 R vs hs c] := (St.init _ w).share rfl rfl h
  clear h
  have HA : Hid (∀ w F, (ModA true 93 R vs hs c).at_ w F → Calls Tryd.prog 47 #[.pointer (some ⟨R, 0, none⟩), .int .i64 lp] w fun r w' => r = .returned (.bool false) ∧ Below w.heap.size w w') := fun w F h => by
    have := has_calls R vs hs c w F lp h; rwa [decide_eq_false hlp] at this
  clear hlp
  go_enter Tryd.func30, Tryd.ntmps30
  go_wp2_with first
    | (go_at_call 47; refine Calls.mono (HA.out _ _ (S.get (i := 0) rfl).choose_spec) ?_; rintro e wz ⟨rfl, hE⟩; replace S := S.ext (Keep.of_below hE); clear hE)
    | ((with_reducible refine tot_done ?ht ?_); (case ht => kernel_rfl))
    | ((with_reducible apply wps_text S); (case hm => kernel_rfl); (case hB => decide +kernel); clear S; intro wz S)
    | ((with_reducible apply wps_load S 0); (case hx => rfl); (case hi => rfl); (case hT => decide +kernel); (case hu => rfl))
  go_ret
  exact ⟨by simp, S.below⟩
/-- What Clone leaves. -/
def ClonePost (p : List Instr) (w : World) (e : Ending) (w' : World) : Prop :=
  ∃ ad c, e = .returned (.slice ad p.length c) ∧ St (fun _ => False) w w' [Own 70 Instr.cells 5 (.slice ad p.length c) p]
set_option maxRecDepth 100000 in
set_option maxHeartbeats 4000000 in
theorem program_at (j k : Nat) (l : Place) (p : List Instr) (h : (ModA true 93 R vs hs c).at_ w F) (hl : c.lps[j]? = some l) (hk : l.program = k) (hp : c.programs[k]? = some p) (hn : p.length ≤ 65536) : Calls Tryd.prog 30 #[.pointer (some ⟨R, 0, none⟩), .int .i64 j] w (ClonePost p w) := by
  have S : St (fun _ => False) w w [ModA true 93 R vs hs c] := (St.init _ w).share rfl rfl h
  clear h
  have hlt := (List.getElem?_eq_some_iff.1 hl).1
  have hlt3 := (List.getElem?_eq_some_iff.1 hp).1
  have HA : Hid (∀ w F, (ModA true 93 R vs hs c).at_ w F → Calls Tryd.prog 47 #[.pointer (some ⟨R, 0, none⟩), .int .i64 (j : Int)] w fun r w' => r = .returned (.bool true) ∧ Below w.heap.size w w') := fun w F h => by
    have := has_calls R vs hs c w F j h; rwa [decide_eq_true (by omega)] at this
  replace S := S.modBlk 0 rfl
  obtain ⟨aP, cP, aL, cL, aS, cS, rfl, hlen, S⟩ := (S.modCfg 1 rfl).cfg 0 rfl
  replace S := S.pick [5, 2, 6, 0, 1] rfl
  simp only [pick, nth] at S
  obtain ⟨RL, o, rfl⟩ : ∃ R o, aL = some ⟨R, o, none⟩ := (S.sl 1 rfl).elim fun F h => h.head (by omega)
  obtain ⟨RP, oP, rfl⟩ : ∃ R o, aP = some ⟨R, o, none⟩ := (S.sl 4 rfl).elim fun F h => h.head (by omega)
  have hlt2 : (j : Int) < c.lps.length := by omega
  have hlt4 : (k : Int) < c.programs.length := by omega
  obtain ⟨v, hv⟩ : ∃ v, hs[k]? = some v := ⟨_, List.getElem?_eq_getElem (by omega)⟩
  obtain ⟨av, cv, rfl, _⟩ := (S.sls 3 rfl).elim fun F h => (h.2 k v p hv hp).form
  obtain ⟨lp, lf⟩ := l
  simp only at hk
  subst hk
  have Hl := Lib.hid hl
  have Hp := Lib.hid hp
  have Hv := Lib.hid hv
  clear hl hp hv
  go_enter Tryd.func30, Tryd.ntmps30
  go_wp2_with first
    | (go_at_call 47; refine Calls.mono (HA.out _ _ (S.get (i := 2) rfl).choose_spec) ?_; rintro e wz ⟨rfl, hE⟩; replace S := S.ext (Keep.of_below hE); clear hE)
    | ((with_reducible refine tot_done ?ht ?_); (case ht => kernel_rfl))
    | ((with_reducible apply wps_load S 0); (case hx => rfl); (case hi => rfl); (case hT => decide +kernel); (case hu => rfl))
  (refine wp_region_w (soft := [0, 1, 2, 3, 4, 5, 6, 7, 8, 9, 10, 11, 12, 13, 14, 15]) S ?hm ?hB ?_); (case hm => kernel_rfl); (case hB => decide +kernel); clear S
  iterate 16
    (with_reducible apply softs_cons)
    (case hw =>
      (with_reducible apply soft_of); (case hi => rfl)
      intro T wz S
      simp only [List.cons_append, List.nil_append] at S
      go_wp2_with first
        | ((with_reducible apply wps_load_el S 4 (hj := Hv.out) (q := 0) (u := (.slice av p.length cv))); (case hx => rfl); (case hi => rfl); (case hn => omega); (case hT => decide +kernel); (case hu => rfl))
        | ((with_reducible apply wps_loada_el S 1 (hj := Hl.out) (q := 0) (vs := [.int .i64 (⟨k,lf⟩:Place).program, .int .i64 (⟨k,lf⟩:Place).first.n0, .int .i64 (⟨k,lf⟩:Place).first.n1, .int .i64 (⟨k,lf⟩:Place).first.n2, .int .i64 (⟨k,lf⟩:Place).first.n3]) (m := 5)); (case hx => rfl); (case hT => decide +kernel); (case hi => rfl); (case hn => omega); (case hm => rfl); (case hv => rfl))
        | ((with_reducible apply wps_load_el S 1 (hj := Hl.out) (q := 0) (u := .int .i64 (⟨k,lf⟩:Place).program)); (case hx => rfl); (case hi => rfl); (case hn => omega); (case hT => decide +kernel); (case hu => rfl))
        | ((with_reducible apply wps_loada_el S 1 (hj := Hl.out) (q := 1) (vs := [.int .i64 (⟨k,lf⟩:Place).first.n0, .int .i64 (⟨k,lf⟩:Place).first.n1, .int .i64 (⟨k,lf⟩:Place).first.n2, .int .i64 (⟨k,lf⟩:Place).first.n3]) (m := 4)); (case hx => rfl); (case hT => decide +kernel); (case hi => rfl); (case hn => omega); (case hm => rfl); (case hv => rfl))
        | ((with_reducible apply wps_load_el S 1 (hj := Hl.out) (q := 1) (u := .int .i64 (⟨k,lf⟩:Place).first.n0)); (case hx => rfl); (case hi => rfl); (case hn => omega); (case hT => decide +kernel); (case hu => rfl))
        | ((with_reducible apply wps_load_el S 1 (hj := Hl.out) (q := 2) (u := .int .i64 (⟨k,lf⟩:Place).first.n1)); (case hx => rfl); (case hi => rfl); (case hn => omega); (case hT => decide +kernel); (case hu => rfl))
        | ((with_reducible apply wps_load_el S 1 (hj := Hl.out) (q := 3) (u := .int .i64 (⟨k,lf⟩:Place).first.n2)); (case hx => rfl); (case hi => rfl); (case hn => omega); (case hT => decide +kernel); (case hu => rfl))
        | ((with_reducible apply wps_load_el S 1 (hj := Hl.out) (q := 4) (u := .int .i64 (⟨k,lf⟩:Place).first.n3)); (case hx => rfl); (case hi => rfl); (case hn => omega); (case hT => decide +kernel); (case hu => rfl))
        | ((with_reducible refine tot_done ?ht ?_); (case ht => kernel_rfl))
        | ((with_reducible apply wps_load S 0); (case hx => rfl); (case hi => rfl); (case hT => decide +kernel); (case hu => rfl))
      exact ⟨rfl, S⟩)
    (case hs => exact ⟨_, rfl, by kernel_rfl⟩)
  refine softs_nil ?_
  repeat'
    (first
      | ((with_reducible apply W_hard1 (i := 16)); (case hn => rfl); (case hr => decide +kernel))
      | ((with_reducible apply W_hard1 (i := 17)); (case hn => rfl); (case hr => decide +kernel))
      | ((with_reducible apply W_hard2 (i := 16) (i' := 17)); (case hn => rfl); (case hr => decide +kernel)))
    all_goals
      intro wz S
      (with_reducible apply hard_of); (case hi => rfl)
      simp only [List.cons_append, List.nil_append] at S
      try simp only [pick, nth] at S
      go_wp2_with first
        | (go_at_call 44; refine Calls.mono (clone_In _ _ ((S.slsEl 3 rfl Hv.out Hp.out).get (i := 0) rfl).choose_spec (by omega)) ?_; rintro e wz ⟨ad2, c2, rfl, _, T⟩; replace S := S.join T rfl; clear T; simp only [List.cons_append, List.nil_append] at S)
        | ((with_reducible refine tot_done ?ht ?_); (case ht => kernel_rfl))
        | ((with_reducible apply wps_load S 0); (case hx => rfl); (case hi => rfl); (case hT => decide +kernel); (case hu => rfl))
        | ((with_reducible apply wps_load S 1); (case hx => rfl); (case hi => rfl); (case hT => decide +kernel); (case hu => rfl))
        | ((with_reducible apply wps_load S 2); (case hx => rfl); (case hi => rfl); (case hT => decide +kernel); (case hu => rfl))
        | ((with_reducible apply wps_load S 3); (case hx => rfl); (case hi => rfl); (case hT => decide +kernel); (case hu => rfl))
        | ((with_reducible apply wps_load S 4); (case hx => rfl); (case hi => rfl); (case hT => decide +kernel); (case hu => rfl))
        | ((with_reducible apply wps_load S 5); (case hx => rfl); (case hi => rfl); (case hT => decide +kernel); (case hu => rfl))
      first
        | refine ⟨_, S.pick [1, 2, 3, 4, 5, 6, 7, 8, 9, 0] rfl, ?_⟩
        | refine ⟨_, S.pick [1, 2, 3, 4, 5, 6, 7, 8, 0] rfl, ?_⟩
        | refine ⟨_, S.pick [1, 2, 3, 4, 5, 6, 7, 0] rfl, ?_⟩
        | refine ⟨_, S.pick [1, 2, 3, 4, 5, 6, 0] rfl, ?_⟩
        | refine ⟨_, S.pick [1, 2, 3, 4, 5, 0] rfl, ?_⟩
        | refine ⟨_, S, ?_⟩
  (with_reducible apply W_done); (case hn => rfl); (case hr => decide +kernel)
  clear S
  intro wz S
  simp only [List.cons_append, List.nil_append] at S
  try simp only [pick, nth] at S
  go_wp2_with first
    | ((with_reducible refine tot_done ?ht ?_); (case ht => kernel_rfl))
    | ((with_reducible apply wps_text S); (case hm => kernel_rfl); (case hB => decide +kernel); clear S; intro wz S)
    | ((with_reducible apply wps_load S 0); (case hx => rfl); (case hi => rfl); (case hT => decide +kernel); (case hu => rfl))
  go_ret
  exact ⟨_, _, rfl, S.pick [5] rfl⟩
end
end Go.Proofs.YtfiiaechippboaaDoor

import Derived.Test.YtjmecncebdbhdaaDoorU20
import Derived.Test.YtjmecncebdbhdaaDoorU24
import Derived.Test.YtjmecncebdbhdaaDoorU25
import Derived.Test.YtjmecncebdbhdaaDoorU30
/- The walk of the law FossilRules. -/
namespace Go.Proofs.YtjmecncebdbhdaaDoor
open Go Go.RowKit Reg Mem

theorem state_ceqs (s t : State) : ceqs s.cells t.cells = decide (s = t) := by
  obtain ⟨a, b, c, d⟩ := s; obtain ⟨a', b', c', d'⟩ := t
  simp only [State.cells, ceqs, ceq, Bool.and_true, State.mk.injEq]
  rw [Bool.eq_iff_iff]; simp
theorem drop_revR {l : List Event} {k : Nat} {x : Event} (h : l[k]? = some x) : (l.drop k).reverse = (l.drop (k + 1)).reverse ++ [x] := by
  obtain ⟨h1, rfl⟩ := List.getElem?_eq_some_iff.1 h
  rw [List.drop_eq_getElem_cons h1, List.reverse_cons]
theorem once_sort_len (l : List Event) : (once (sortT l)).length ≤ l.length := Nat.le_trans (once_len _) (by rw [sortT_len]; exact Nat.le_refl _)
theorem rule_rev (c : Cfg) (lp : Int) (s : State) (l : List Event) : ruleC c lp s l.reverse = ruleC c lp s l := by unfold ruleC; rw [sortT_rev]
def RuRel (L : List Asn) (l : List Event) (w : World) (out i : Value) (wr : World) : Prop :=
  ∃ (z : Int) (j : Nat) (lb : List Event), j ≤ l.length ∧ i = .int .i64 z ∧ Hid (z + 1 = j) ∧ Hid (lb = (l.drop j).reverse) ∧ lb.length ≤ 40 ∧ St (fun _ => False) w wr (Mem.Own 52 Event.cells 7 out lb :: L)
set_option maxRecDepth 100000 in
set_option maxHeartbeats 16000000 in
theorem fossilRules_calls (vs hs : List Value) (c : Cfg) (lp : Int) (s : State) (v : Value) (l : List Event) (w : World) (F F2 F3 : Nat → Prop) (h : (CfgA true vs hs c).at_ w F) (hw : Wide c) (hwb : WideB c) (h2 : (Sl true Event.cells 7 v l).at_ w F2) (hlen : l.length ≤ 9223372036854775807)
    (hat : ∀ x ∈ l, -9223372036854775808 ≤ x.key.at_) (ht : Tab.at_ w F3) :
    Calls Tryd.prog 3 #[.agg vs.toArray, .agg #[.int .i64 lp, .int .i64 s.n0, .int .i64 s.n1, .int .i64 s.n2, .int .i64 s.n3, v]] w fun r w' => r = .returned (.bool true) ∧ Below w.heap.size w w' := by
  have S : St (fun _ => False) w w [CfgA true vs hs c, Sl true Event.cells 7 v l, Tab] := (((St.init _ w).share rfl rfl ht).share (A := Sl true Event.cells 7 v l) rfl rfl h2).share rfl rfl h
  clear h h2 ht
  obtain ⟨ad, cp, rfl, _⟩ := (S.sl 1 rfl).elim fun _ h => h.form
  obtain ⟨aP, cP, aL, cL, aS, cS, rfl, _, _⟩ := S.cfg 0 rfl
  have HMd := Lib.hid fun w F F2 h ht => made_calls [.slice aP c.programs.length cP, .slice aL c.lps.length cL, .slice aS c.starts.length cS, .int .i64 c.fin, .int .i64 c.fuel, .int .i64 c.fan] hs c w F F2 h hw hwb ht
  clear hw hwb
  have HAT := Lib.hid hat
  clear hat
  go_enter Tryd.func3, Tryd.ntmps3
  go_wp2_with first | ((with_reducible apply wps_boxa (E := 26) S); (case hx => rfl); clear S; intro bx wz S) | ((with_reducible apply wps_boxa (E := 31) S); (case hx => rfl); clear S; intro by_ wz S) | ((with_reducible apply wps_loada (T := 26) (k := 6) S 1); (case hx | hi => rfl); (case hk => exact Nat.le_of_ble_eq_true rfl); (case hT => decide +kernel))
  refine Calls.mono (HMd.out _ _ _ (S.get (i := 2) rfl).choose_spec (S.get (i := 4) rfl).choose_spec) ?_
  clear HMd
  rintro r wz ⟨pv, vs2, hs2, rfl, (⟨hm, rfl, T⟩ | ⟨hm, R, vs3, hs3, rfl, T⟩)⟩
  · replace S := ((S.join T rfl).cfgShare 0 rfl).pick [0, 1, 2, 3, 4, 5] rfl
    repeat (first | simp only at S | simp only [pick] at S | simp only [nth] at S | simp only [List.set_cons_succ] at S | simp only [List.set_cons_zero] at S | simp only [List.setIfInBounds_toArray] at S | simp only [setAll] at S | simp only [List.cons_append] at S | simp only [List.nil_append] at S | simp only [List.append_nil] at S)
    clear T hm
    obtain ⟨aP2, cP2, aL2, cL2, aS2, cS2, rfl, _, _⟩ := S.cfg 0 rfl
    go_wp2_with first | go_skip | ((with_reducible apply wps_alloca (E := 37) S); (case hz => exact Tryd.zeroValue37); clear S; intro b6 wz S) | ((with_reducible apply wps_storea (T := 37) S 0 (vs := [.slice aP2 c.programs.length cP2, .slice aL2 c.lps.length cL2, .slice aS2 c.starts.length cS2, .int .i64 c.fin, .int .i64 c.fuel, .int .i64 c.fan]) (m := 6)); (case hx | hy | hi | hm | h1 => rfl); (case hn => exact Nat.le_of_ble_eq_true rfl); (case hT => decide +kernel); clear S; intro wz S; simp only [List.set_cons_zero, List.set_cons_succ, setAll, List.setIfInBounds_toArray] at S) | (go_at_call 6; refine Calls.mono (awake16_calls _ _ (S.get (i := 6) rfl).choose_spec) ?_; rintro e wz ⟨rfl, hE⟩; replace S := S.ext (Keep.of_below hE); clear hE)
    go_ret
    exact ⟨rfl, S.below⟩
  replace S := (((S.join T rfl).modShare 0 rfl).cfgShare 1 rfl).pick [0, 1, 2, 3, 4, 5, 6] rfl
  repeat (first | simp only at S | simp only [pick] at S | simp only [nth] at S | simp only [List.set_cons_succ] at S | simp only [List.set_cons_zero] at S | simp only [List.setIfInBounds_toArray] at S | simp only [setAll] at S | simp only [List.cons_append] at S | simp only [List.nil_append] at S | simp only [List.append_nil] at S)
  clear T
  obtain ⟨aP2, cP2, aL2, cL2, aS2, cS2, rfl, _, _⟩ := S.cfg 1 rfl
  have hfw : fewB c = true ∧ cfgE c = 0 := by unfold madeB at hm; rw [Bool.and_eq_true, decide_eq_true_eq] at hm; exact hm
  have HC := Lib.hid hfw.2
  clear hm hfw
  by_cases h40 : l.length ≤ 40
  case neg =>
    have f40 : decide ((40 : Int) < l.length) = true := decide_eq_true (by omega)
    go_wp2_with first | ((with_reducible apply wps_alloca (E := 37) S); (case hz => exact Tryd.zeroValue37); clear S; intro b6 wz S) | ((with_reducible apply wps_storea (T := 37) S 0 (vs := [.slice aP2 c.programs.length cP2, .slice aL2 c.lps.length cL2, .slice aS2 c.starts.length cS2, .int .i64 c.fin, .int .i64 c.fuel, .int .i64 c.fan]) (m := 6)); (case hx | hy | hi | hm | h1 => rfl); (case hn => exact Nat.le_of_ble_eq_true rfl); (case hT => decide +kernel); clear S; intro wz S; simp only [List.set_cons_zero, List.set_cons_succ, setAll, List.setIfInBounds_toArray] at S) | ((with_reducible apply wps_load S 3); (case hx | hi | hu => rfl); (case hT => decide +kernel)) | (go_at_call 6; refine Calls.mono (awake16_calls _ _ (S.get (i := 7) rfl).choose_spec) ?_; rintro e wz ⟨rfl, hE⟩; replace S := S.ext (Keep.of_below hE); clear hE)
    go_ret
    exact ⟨rfl, S.below⟩
  have f40 : decide ((40 : Int) < l.length) = false := decide_eq_false (by omega)
  go_upto_region 4 with first | ((with_reducible apply wps_alloca (E := 37) S); (case hz => exact Tryd.zeroValue37); clear S; intro b6 wz S) | ((with_reducible apply wps_storea (T := 37) S 0 (vs := [.slice aP2 c.programs.length cP2, .slice aL2 c.lps.length cL2, .slice aS2 c.starts.length cS2, .int .i64 c.fin, .int .i64 c.fuel, .int .i64 c.fan]) (m := 6)); (case hx | hy | hi | hm | h1 => rfl); (case hn => exact Nat.le_of_ble_eq_true rfl); (case hT => decide +kernel); clear S; intro wz S; simp only [List.set_cons_zero, List.set_cons_succ, setAll, List.setIfInBounds_toArray] at S) | ((with_reducible apply wps_load S 3); (case hx | hi | hu => rfl); (case hT => decide +kernel))
  replace S := S.pick [1, 3, 6, 7] rfl
  simp only [pick, nth] at S
  clear f40
  obtain ⟨q, hq⟩ : ∃ q, once (sortT l) = q := ⟨_, rfl⟩
  have hqn : q.length ≤ 40 := by rw [← hq]; exact Nat.le_trans (once_sort_len l) h40
  obtain ⟨s2, out, hr⟩ : ∃ s2 out, ruleC c lp s l = (s2, out) := ⟨_, _, rfl⟩
  have HQAT : Hid (wrongE c.lps.length lp q = 0 → -9223372036854775808 ≤ atE q) := Lib.hid fun _ => by
    cases q with
    | nil => decide
    | cons x t =>
      have hx : x ∈ once (sortT l) := by rw [hq]; simp
      have hsub : (once (sortT l)).Sublist (sortT l) := once_sub _ none
      exact HAT.out x ((sortT_perm l).mem_iff.1 (hsub.subset hx))
  have hRU : (s2, out) = if wrongE c.lps.length lp q = 0 then batchC c lp s q else (s, []) := by rw [← hr]; unfold ruleC; rw [hq]
  have HSm : Hid (∀ (v : Value) (w : World) (F : Nat → Prop) (h : (Sl true Event.cells 7 v l).at_ w F), Calls Tryd.prog 9 #[v] w (SmPost q w)) := Lib.hid fun v w F h => by have := some_calls v l w F h (by omega); rw [hq] at this; exact this
  have HR1 := Lib.hid fun (v : Value) (w : World) (F F2 F3 : Nat → Prop) (h : (ModA true 117 R vs3 hs3 c).at_ w F) (h2 : (Sl true Event.cells 7 v l).at_ w F2) (ht : Tab.at_ w F3) => rrun_calls R vs3 hs3 c lp s v l w F F2 F3 h h2 ht (by omega) HC.out HAT.out s2 out hr
  have HR2 := Lib.hid fun (v : Value) (w : World) (F F2 F3 : Nat → Prop) (h : (ModA true 117 R vs3 hs3 c).at_ w F) (h2 : (Sl true Event.cells 7 v l.reverse).at_ w F2) (ht : Tab.at_ w F3) => rrun_calls R vs3 hs3 c lp s v l.reverse w F F2 F3 h h2 ht (by rw [List.length_reverse]; omega) HC.out (fun x hx => HAT.out x (List.mem_reverse.1 hx)) s2 out (by rw [rule_rev]; exact hr)
  have HB := Lib.hid fun (v : Value) (w : World) (F F2 F3 : Nat → Prop) (h : (ModA true 117 R vs3 hs3 c).at_ w F) (h2 : (Sl true Event.cells 7 v q).at_ w F2) (ht : Tab.at_ w F3) => brun_callsW R vs3 hs3 c lp s v q w F F2 F3 h h2 ht (by omega) HC.out HQAT.out
  clear hq hr HAT HQAT
  by_cases hw : wrongE c.lps.length lp q = 0
  case neg =>
    obtain ⟨e0, he0⟩ : ∃ e, wrongE c.lps.length lp q = e := ⟨_, rfl⟩
    have HR : s2 = s ∧ out = [] := by rw [if_neg hw] at hRU; simpa using hRU
    obtain ⟨rfl, rfl⟩ := HR
    have f1 : (e0 != 0) = true := by rw [← he0]; simpa using hw
    have HB2 : Hid (∀ (v : Value) (w : World) (F F2 F3 : Nat → Prop) (h : (ModA true 117 R vs3 hs3 c).at_ w F) (h2 : (Sl true Event.cells 7 v q).at_ w F2) (ht : Tab.at_ w F3), Calls Tryd.prog 8 #[.pointer (some ⟨R, 0, none⟩), .int .i64 lp, .agg #[.int .i64 s2.n0, .int .i64 s2.n1, .int .i64 s2.n2, .int .i64 s2.n3], v] w fun e w' =>
      e = .returned (.tuple #[.agg #[.int .i64 0, .int .i64 0, .int .i64 0, .int .i64 0], .slice none 0 0, .int .i64 e0]) ∧ Below w.heap.size w w') := Lib.hid fun v w F F2 F3 h h2 ht => (HB.out v w F F2 F3 h h2 ht).mono fun e w' hp => by
        rcases hp with ⟨_, he, hb⟩ | ⟨h1, _⟩
        · rw [he0] at he; exact ⟨he, hb⟩
        · exact absurd h1 hw
    have HE := Lib.hid ((state_ceqs s2 s2).trans (show _ = true by simp))
    clear HB hw hRU he0 HR2
    go_upto_region 6 with first | ((with_reducible apply wps_alloca (E := 42) S); (case hz => exact Tryd.zeroValue42); clear S; intro b7 wz S) | ((with_reducible apply wps_storea (T := 42) S 0 (vs := [.pointer (some ⟨R, 0, none⟩)]) (m := 1)); (case hx | hy | hi | hm | h1 => rfl); (case hn => exact Nat.le_of_ble_eq_true rfl); (case hT => decide +kernel); clear S; intro wz S; simp only [List.set_cons_zero, setAll, List.setIfInBounds_toArray] at S) | ((with_reducible apply wps_loada (T := 42) (k := 1) S 0); (case hx | hi => rfl); (case hk => exact Nat.le_of_ble_eq_true rfl); (case hT => decide +kernel)) | ((with_reducible apply wps_load S 2); (case hx | hi | hu => rfl); (case hT => decide +kernel)) | ((with_reducible apply wps_loada (T := 28) (k := 4) S 2); (case hx | hi => rfl); (case hk => exact Nat.le_of_ble_eq_true rfl); (case hT => decide +kernel)) | (go_at_call 7; have hcz := HR1.out _ _ _ _ _ (S.get (i := 1) rfl).choose_spec (S.get (i := 3) rfl).choose_spec (S.get (i := 4) rfl).choose_spec; (with_reducible refine Calls.mono hcz ?_); clear hcz; rintro e wz ⟨ado, cpo, rfl, T⟩; replace S := S.join T rfl; clear T; simp only [List.cons_append, List.nil_append] at S) | ((with_reducible apply wps_alloca (E := 28) S); (case hz => exact Tryd.zeroValue28); clear S; intro b8 wz S) | ((with_reducible apply wps_storea (T := 28) S 0 (vs := [.int .i64 s2.n0, .int .i64 s2.n1, .int .i64 s2.n2, .int .i64 s2.n3]) (m := 4)); (case hx | hy | hi | hm | h1 => rfl); (case hn => exact Nat.le_of_ble_eq_true rfl); (case hT => decide +kernel); clear S; intro wz S; simp only [List.set_cons_zero, List.set_cons_succ, setAll, List.setIfInBounds_toArray] at S)
    replace S := S.freeze true 1 ecells rfl
    simp only [List.set_cons_zero, List.set_cons_succ] at S
    go_wp2_with first | ((with_reducible apply wps_loada (T := 52) (k := 7) S 0); (case hx | hi => rfl); (case hk => exact Nat.le_of_ble_eq_true rfl); (case hT => decide +kernel))
    (refine wp_region_w (soft := [0, 1, 2, 3, 4, 5, 6]) S ?hm ?hB ?_); (case hm => kernel_rfl); (case hB => decide +kernel); clear S
    iterate 7
      (with_reducible apply softs_cons)
      (case hw =>
        (with_reducible apply soft_of); (case hi => rfl)
        intro T wz S
        simp only [List.cons_append, List.nil_append] at S
        go_wp2_with first | ((with_reducible apply wps_load S 4); (case hx | hi | hu => rfl); (case hT => decide +kernel)) | ((with_reducible apply wps_loada (T := 28) (k := 4) S 4); (case hx | hi => rfl); (case hk => exact Nat.le_of_ble_eq_true rfl); (case hT => decide +kernel)) | ((with_reducible refine tot_done ?ht ?_); (case ht => kernel_rfl))
        exact ⟨rfl, S⟩)
      (case hs => exact ⟨_, rfl, by kernel_rfl⟩)
    refine softs_nil ?_
    (with_reducible apply W_hard2 (i := 7) (i' := 13)); (case hn => rfl); (case hr => decide +kernel)
    focus
      intro wz S
      (with_reducible apply hard_of); (case hi => rfl)
      simp only [List.cons_append, List.nil_append] at S
      go_wp2_with first | (go_at_call 9; refine Calls.mono (HSm.out _ _ _ (S.get (i := 5) rfl).choose_spec) ?_; rintro e wz ⟨adq, cpq, rfl, T⟩; replace S := S.join T rfl; clear T; simp only [List.cons_append, List.nil_append] at S) | ((with_reducible refine tot_done ?ht ?_); (case ht => kernel_rfl))
      refine ⟨_, S.pick [1, 2, 3, 4, 5, 6, 7, 0] rfl, ?_⟩
      clear S
      (with_reducible apply W_hard2 (i := 8) (i' := 13)); (case hn => rfl); (case hr => decide +kernel)
      focus
        intro wz S
        (with_reducible apply hard_of); (case hi => rfl)
        simp only [List.cons_append, List.nil_append] at S
        go_wp2_with first | (go_at_call 8; have hcz := HB2.out _ _ _ _ _ (S.get (i := 3) rfl).choose_spec (own_sl (sh := true) ecells (S.get (i := 7) rfl).choose_spec) (S.get (i := 6) rfl).choose_spec; (with_reducible refine Calls.mono hcz ?_); clear hcz; rintro e wz ⟨rfl, hE⟩; replace S := S.ext (Keep.of_below hE); clear hE) | ((with_reducible refine tot_done ?ht ?_); (case ht => kernel_rfl))
        refine ⟨_, S, ?_⟩
        clear S
        (refine W_mid (f := 4) (soft := [9, 10, 11, 12]) rfl ?hB ?_); (case hB => decide +kernel)
        iterate 4
          (with_reducible apply softs_cons)
          (case hw =>
            (with_reducible apply soft_of); (case hi => rfl)
            intro T wz S
            simp only [List.cons_append, List.nil_append] at S
            go_wp2_with first | ((with_reducible refine tot_done ?ht ?_); (case ht => kernel_rfl))
            exact ⟨rfl, S⟩)
          (case hs => exact ⟨_, rfl, by kernel_rfl⟩)
        refine softs_nil ?_
        (with_reducible apply W_hard1 (i := 13)); (case hn => rfl); (case hr => decide +kernel)
        intro wz S
        (with_reducible apply hard_of); (case hi => rfl)
        simp only [List.cons_append, List.nil_append] at S
        go_wp2_with first | ((with_reducible apply wps_alloca (E := 28) S); (case hz => exact Tryd.zeroValue28); clear S; intro b10 wz S) | ((with_reducible refine tot_done ?ht ?_); (case ht => kernel_rfl))
        refine ⟨_, S.pick [1, 2, 3, 4, 5, 6, 7, 8, 0] rfl, ?_⟩
        clear S
        (with_reducible apply W_hard1 (i := 14)); (case hn => rfl); (case hr => decide +kernel)
        intro wz S
        (with_reducible apply hard_of); (case hi => rfl)
        simp only [List.cons_append, List.nil_append] at S
        go_wp2_with first | ((with_reducible apply wps_storea (T := 28) S 8 (vs := [.int .i64 0, .int .i64 0, .int .i64 0, .int .i64 0]) (m := 4)); (case hx | hy | hi | hm | h1 => rfl); (case hn => exact Nat.le_of_ble_eq_true rfl); (case hT => decide +kernel); clear S; intro wz S; simp only [List.set_cons_zero, List.set_cons_succ, setAll, List.setIfInBounds_toArray] at S) | ((with_reducible refine tot_done ?ht ?_); (case ht => kernel_rfl))
        refine ⟨_, S, ?_⟩
        clear S
        (refine W_mid (f := 0) (soft := [15, 16]) rfl ?hB ?_); (case hB => decide +kernel)
        iterate 2
          (with_reducible apply softs_cons)
          (case hw =>
            (with_reducible apply soft_of); (case hi => rfl)
            intro T wz S
            simp only [List.cons_append, List.nil_append] at S
            go_wp2_with first | ((with_reducible refine tot_done ?ht ?_); (case ht => kernel_rfl))
            exact ⟨rfl, S⟩)
          (case hs => exact ⟨_, rfl, by kernel_rfl⟩)
        refine softs_nil ?_
        (with_reducible apply W_done); (case hn => rfl); (case hr => decide +kernel)
        intro wz S
        repeat (first | simp only at S | simp only [pick] at S | simp only [nth] at S | simp only [List.set_cons_succ] at S | simp only [List.set_cons_zero] at S | simp only [List.setIfInBounds_toArray] at S | simp only [setAll] at S | simp only [List.cons_append] at S | simp only [List.nil_append] at S | simp only [List.append_nil] at S)
      rotate_left 1
      focus
        intro wz S
        (with_reducible apply hard_of); (case hi => rfl)
        simp only [List.cons_append, List.nil_append] at S
        go_wp2_with first | ((with_reducible apply wps_alloca (E := 28) S); (case hz => exact Tryd.zeroValue28); clear S; intro b10 wz S) | ((with_reducible refine tot_done ?ht ?_); (case ht => kernel_rfl))
        refine ⟨_, S.pick [1, 2, 3, 4, 5, 6, 7, 8, 0] rfl, ?_⟩
        clear S
        (with_reducible apply W_hard1 (i := 8)); (case hn => rfl); (case hr => decide +kernel)
        intro wz S
        (with_reducible apply hard_of); (case hi => rfl)
        simp only [List.cons_append, List.nil_append] at S
        go_wp2_with first | (go_at_call 8; have hcz := HB2.out _ _ _ _ _ (S.get (i := 3) rfl).choose_spec (own_sl (sh := true) ecells (S.get (i := 7) rfl).choose_spec) (S.get (i := 6) rfl).choose_spec; (with_reducible refine Calls.mono hcz ?_); clear hcz; rintro e wz ⟨rfl, hE⟩; replace S := S.ext (Keep.of_below hE); clear hE) | ((with_reducible refine tot_done ?ht ?_); (case ht => kernel_rfl))
        refine ⟨_, S, ?_⟩
        clear S
        (refine W_mid (f := 3) (soft := [9, 10, 11, 12]) rfl ?hB ?_); (case hB => decide +kernel)
        iterate 4
          (with_reducible apply softs_cons)
          (case hw =>
            (with_reducible apply soft_of); (case hi => rfl)
            intro T wz S
            simp only [List.cons_append, List.nil_append] at S
            go_wp2_with first | ((with_reducible refine tot_done ?ht ?_); (case ht => kernel_rfl))
            exact ⟨rfl, S⟩)
          (case hs => exact ⟨_, rfl, by kernel_rfl⟩)
        refine softs_nil ?_
        (with_reducible apply W_hard1 (i := 14)); (case hn => rfl); (case hr => decide +kernel)
        intro wz S
        (with_reducible apply hard_of); (case hi => rfl)
        simp only [List.cons_append, List.nil_append] at S
        go_wp2_with first | ((with_reducible apply wps_storea (T := 28) S 8 (vs := [.int .i64 0, .int .i64 0, .int .i64 0, .int .i64 0]) (m := 4)); (case hx | hy | hi | hm | h1 => rfl); (case hn => exact Nat.le_of_ble_eq_true rfl); (case hT => decide +kernel); clear S; intro wz S; simp only [List.set_cons_zero, List.set_cons_succ, setAll, List.setIfInBounds_toArray] at S) | ((with_reducible refine tot_done ?ht ?_); (case ht => kernel_rfl))
        refine ⟨_, S, ?_⟩
        clear S
        (refine W_mid (f := 0) (soft := [15, 16]) rfl ?hB ?_); (case hB => decide +kernel)
        iterate 2
          (with_reducible apply softs_cons)
          (case hw =>
            (with_reducible apply soft_of); (case hi => rfl)
            intro T wz S
            simp only [List.cons_append, List.nil_append] at S
            go_wp2_with first | ((with_reducible refine tot_done ?ht ?_); (case ht => kernel_rfl))
            exact ⟨rfl, S⟩)
          (case hs => exact ⟨_, rfl, by kernel_rfl⟩)
        refine softs_nil ?_
        (with_reducible apply W_done); (case hn => rfl); (case hr => decide +kernel)
        intro wz S
        repeat (first | simp only at S | simp only [pick] at S | simp only [nth] at S | simp only [List.set_cons_succ] at S | simp only [List.set_cons_zero] at S | simp only [List.setIfInBounds_toArray] at S | simp only [setAll] at S | simp only [List.cons_append] at S | simp only [List.nil_append] at S | simp only [List.append_nil] at S)
    rotate_left 2
    focus
      intro wz S
      (with_reducible apply hard_of); (case hi => rfl)
      simp only [List.cons_append, List.nil_append] at S
      go_wp2_with first | ((with_reducible apply wps_alloca (E := 28) S); (case hz => exact Tryd.zeroValue28); clear S; intro b10 wz S) | ((with_reducible refine tot_done ?ht ?_); (case ht => kernel_rfl))
      refine ⟨_, S.pick [1, 2, 3, 4, 5, 6, 7, 0] rfl, ?_⟩
      clear S
      (with_reducible apply W_hard1 (i := 7)); (case hn => rfl); (case hr => decide +kernel)
      intro wz S
      (with_reducible apply hard_of); (case hi => rfl)
      simp only [List.cons_append, List.nil_append] at S
      go_wp2_with first | (go_at_call 9; refine Calls.mono (HSm.out _ _ _ (S.get (i := 5) rfl).choose_spec) ?_; rintro e wz ⟨adq, cpq, rfl, T⟩; replace S := S.join T rfl; clear T; simp only [List.cons_append, List.nil_append] at S) | ((with_reducible refine tot_done ?ht ?_); (case ht => kernel_rfl))
      refine ⟨_, S.pick [1, 2, 3, 4, 5, 6, 7, 0, 8] rfl, ?_⟩
      clear S
      (with_reducible apply W_hard1 (i := 8)); (case hn => rfl); (case hr => decide +kernel)
      intro wz S
      (with_reducible apply hard_of); (case hi => rfl)
      simp only [List.cons_append, List.nil_append] at S
      go_wp2_with first | (go_at_call 8; have hcz := HB2.out _ _ _ _ _ (S.get (i := 3) rfl).choose_spec (own_sl (sh := true) ecells (S.get (i := 7) rfl).choose_spec) (S.get (i := 6) rfl).choose_spec; (with_reducible refine Calls.mono hcz ?_); clear hcz; rintro e wz ⟨rfl, hE⟩; replace S := S.ext (Keep.of_below hE); clear hE) | ((with_reducible refine tot_done ?ht ?_); (case ht => kernel_rfl))
      refine ⟨_, S, ?_⟩
      clear S
      (refine W_mid (f := 3) (soft := [9, 10, 11, 12]) rfl ?hB ?_); (case hB => decide +kernel)
      iterate 4
        (with_reducible apply softs_cons)
        (case hw =>
          (with_reducible apply soft_of); (case hi => rfl)
          intro T wz S
          simp only [List.cons_append, List.nil_append] at S
          go_wp2_with first | ((with_reducible refine tot_done ?ht ?_); (case ht => kernel_rfl))
          exact ⟨rfl, S⟩)
        (case hs => exact ⟨_, rfl, by kernel_rfl⟩)
      refine softs_nil ?_
      (with_reducible apply W_hard1 (i := 14)); (case hn => rfl); (case hr => decide +kernel)
      intro wz S
      (with_reducible apply hard_of); (case hi => rfl)
      simp only [List.cons_append, List.nil_append] at S
      go_wp2_with first | ((with_reducible apply wps_storea (T := 28) S 8 (vs := [.int .i64 0, .int .i64 0, .int .i64 0, .int .i64 0]) (m := 4)); (case hx | hy | hi | hm | h1 => rfl); (case hn => exact Nat.le_of_ble_eq_true rfl); (case hT => decide +kernel); clear S; intro wz S; simp only [List.set_cons_zero, List.set_cons_succ, setAll, List.setIfInBounds_toArray] at S) | ((with_reducible refine tot_done ?ht ?_); (case ht => kernel_rfl))
      refine ⟨_, S, ?_⟩
      clear S
      (refine W_mid (f := 0) (soft := [15, 16]) rfl ?hB ?_); (case hB => decide +kernel)
      iterate 2
        (with_reducible apply softs_cons)
        (case hw =>
          (with_reducible apply soft_of); (case hi => rfl)
          intro T wz S
          simp only [List.cons_append, List.nil_append] at S
          go_wp2_with first | ((with_reducible refine tot_done ?ht ?_); (case ht => kernel_rfl))
          exact ⟨rfl, S⟩)
        (case hs => exact ⟨_, rfl, by kernel_rfl⟩)
      refine softs_nil ?_
      (with_reducible apply W_done); (case hn => rfl); (case hr => decide +kernel)
      intro wz S
      repeat (first | simp only at S | simp only [pick] at S | simp only [nth] at S | simp only [List.set_cons_succ] at S | simp only [List.set_cons_zero] at S | simp only [List.setIfInBounds_toArray] at S | simp only [setAll] at S | simp only [List.cons_append] at S | simp only [List.nil_append] at S | simp only [List.append_nil] at S)
    all_goals
      go_wp2_with first | ((with_reducible apply wps_loada (T := 28) (k := 4) S 0); (case hx | hi => rfl); (case hk => exact Nat.le_of_ble_eq_true rfl); (case hT => decide +kernel)) | ((with_reducible apply wps_loada (T := 28) (k := 4) S 4); (case hx | hi => rfl); (case hk => exact Nat.le_of_ble_eq_true rfl); (case hT => decide +kernel)) | ((with_reducible apply wpList_eql_agg (t := 28) (ks := [.int .i64, .int .i64, .int .i64, .int .i64]) (b := _)); (case hx | hy => rfl); (case hl | ha | hg => kernel_rfl); (case hfx | hfy => rfl); (case hb => exact HE.out)) | (go_at_call 6; refine Calls.mono (awake16_calls _ _ (S.get (i := 6) rfl).choose_spec) ?_; rintro e wz ⟨rfl, hE⟩; replace S := S.ext (Keep.of_below hE); clear hE)
      go_ret
      exact ⟨rfl, S.below⟩
  case pos =>
    have HR : batchC c lp s q = (s2, out) := by rw [if_pos hw] at hRU; exact hRU.symm
    have hol : out.length ≤ 320 := by
      have g1 := batch_len c lp s q (cfg_isfine HC.out).sizes.2.2.2.2.1
      rw [HR] at g1
      have g3 : c.fan * (q.length : Int) ≤ 8 * (q.length : Int) := Int.mul_le_mul_of_nonneg_right (cfg_isfine HC.out).sizes.2.2.2.2.2 (by omega)
      have g4 : (out.length : Int) ≤ 8 * (q.length : Int) := Int.le_trans g1 g3
      omega
    have HB2 : Hid (∀ (v : Value) (w : World) (F F2 F3 : Nat → Prop) (h : (ModA true 117 R vs3 hs3 c).at_ w F) (h2 : (Sl true Event.cells 7 v q).at_ w F2) (ht : Tab.at_ w F3), Calls Tryd.prog 8 #[.pointer (some ⟨R, 0, none⟩), .int .i64 lp, .agg #[.int .i64 s.n0, .int .i64 s.n1, .int .i64 s.n2, .int .i64 s.n3], v] w fun e w' =>
      ∃ ad cp, e = .returned (.tuple #[.agg #[.int .i64 s2.n0, .int .i64 s2.n1, .int .i64 s2.n2, .int .i64 s2.n3], .slice ad out.length cp, .int .i64 0]) ∧ St (fun _ => False) w w' [Mem.Own 52 Event.cells 7 (.slice ad out.length cp) out]) := Lib.hid fun v w F F2 F3 h h2 ht => (HB.out v w F F2 F3 h h2 ht).mono fun e w' hp => by
        rcases hp with ⟨h1, _⟩ | ⟨_, v, he, S⟩
        · exact absurd hw h1
        · rw [HR] at he S
          obtain ⟨ad, cp, rfl, _⟩ := (S.ownsl ecells 0 rfl).elim fun _ h => h.form
          exact ⟨ad, cp, he, S⟩
    have HE := Lib.hid ((state_ceqs s2 s2).trans (show _ = true by simp))
    have HEv : Hid (∀ (v1 v2 : Value) (w : World) (F1 F2 : Nat → Prop) (h1 : (Sl true Event.cells 7 v1 out).at_ w F1) (h2 : (Sl true Event.cells 7 v2 out).at_ w F2), Calls Tryd.prog 10 #[v1, v2] w fun r w' => r = .returned (.bool true) ∧ Below w.heap.size w w') := Lib.hid fun v1 v2 w F1 F2 h1 h2 =>
      (evseq_callsT _ _ _ _ w F1 F2 h1 h2 (by omega) (by omega)).mono fun r w' ⟨h, hb2⟩ => ⟨by rw [h]; simp, hb2⟩
    clear HB hw hRU HR
    go_upto_region 6 with first | ((with_reducible apply wps_alloca (E := 42) S); (case hz => exact Tryd.zeroValue42); clear S; intro b7 wz S) | ((with_reducible apply wps_storea (T := 42) S 0 (vs := [.pointer (some ⟨R, 0, none⟩)]) (m := 1)); (case hx | hy | hi | hm | h1 => rfl); (case hn => exact Nat.le_of_ble_eq_true rfl); (case hT => decide +kernel); clear S; intro wz S; simp only [List.set_cons_zero, setAll, List.setIfInBounds_toArray] at S) | ((with_reducible apply wps_loada (T := 42) (k := 1) S 0); (case hx | hi => rfl); (case hk => exact Nat.le_of_ble_eq_true rfl); (case hT => decide +kernel)) | ((with_reducible apply wps_load S 2); (case hx | hi | hu => rfl); (case hT => decide +kernel)) | ((with_reducible apply wps_loada (T := 28) (k := 4) S 2); (case hx | hi => rfl); (case hk => exact Nat.le_of_ble_eq_true rfl); (case hT => decide +kernel)) | (go_at_call 7; have hcz := HR1.out _ _ _ _ _ (S.get (i := 1) rfl).choose_spec (S.get (i := 3) rfl).choose_spec (S.get (i := 4) rfl).choose_spec; (with_reducible refine Calls.mono hcz ?_); clear hcz; rintro e wz ⟨ado, cpo, rfl, T⟩; replace S := S.join T rfl; clear T; simp only [List.cons_append, List.nil_append] at S) | ((with_reducible apply wps_alloca (E := 28) S); (case hz => exact Tryd.zeroValue28); clear S; intro b8 wz S) | ((with_reducible apply wps_storea (T := 28) S 0 (vs := [.int .i64 s2.n0, .int .i64 s2.n1, .int .i64 s2.n2, .int .i64 s2.n3]) (m := 4)); (case hx | hy | hi | hm | h1 => rfl); (case hn => exact Nat.le_of_ble_eq_true rfl); (case hT => decide +kernel); clear S; intro wz S; simp only [List.set_cons_zero, List.set_cons_succ, setAll, List.setIfInBounds_toArray] at S)
    replace S := S.freeze true 1 ecells rfl
    simp only [List.set_cons_zero, List.set_cons_succ] at S
    go_wp2_with first | ((with_reducible apply wps_loada (T := 52) (k := 7) S 0); (case hx | hi => rfl); (case hk => exact Nat.le_of_ble_eq_true rfl); (case hT => decide +kernel))
    (refine wp_region_w (soft := [0, 1, 2, 3, 4, 5, 6]) S ?hm ?hB ?_); (case hm => kernel_rfl); (case hB => decide +kernel); clear S
    iterate 7
      (with_reducible apply softs_cons)
      (case hw =>
        (with_reducible apply soft_of); (case hi => rfl)
        intro T wz S
        simp only [List.cons_append, List.nil_append] at S
        go_wp2_with first | ((with_reducible apply wps_load S 4); (case hx | hi | hu => rfl); (case hT => decide +kernel)) | ((with_reducible apply wps_loada (T := 28) (k := 4) S 4); (case hx | hi => rfl); (case hk => exact Nat.le_of_ble_eq_true rfl); (case hT => decide +kernel)) | ((with_reducible refine tot_done ?ht ?_); (case ht => kernel_rfl))
        exact ⟨rfl, S⟩)
      (case hs => exact ⟨_, rfl, by kernel_rfl⟩)
    refine softs_nil ?_
    (with_reducible apply W_hard2 (i := 7) (i' := 13)); (case hn => rfl); (case hr => decide +kernel)
    focus
      intro wz S
      (with_reducible apply hard_of); (case hi => rfl)
      simp only [List.cons_append, List.nil_append] at S
      go_wp2_with first | (go_at_call 9; refine Calls.mono (HSm.out _ _ _ (S.get (i := 5) rfl).choose_spec) ?_; rintro e wz ⟨adq, cpq, rfl, T⟩; replace S := S.join T rfl; clear T; simp only [List.cons_append, List.nil_append] at S) | ((with_reducible refine tot_done ?ht ?_); (case ht => kernel_rfl))
      refine ⟨_, S.pick [1, 2, 3, 4, 5, 6, 7, 0] rfl, ?_⟩
      clear S
      (with_reducible apply W_hard2 (i := 8) (i' := 13)); (case hn => rfl); (case hr => decide +kernel)
      focus
        intro wz S
        (with_reducible apply hard_of); (case hi => rfl)
        simp only [List.cons_append, List.nil_append] at S
        go_wp2_with first | (go_at_call 8; have hcz := HB2.out _ _ _ _ _ (S.get (i := 3) rfl).choose_spec (own_sl (sh := true) ecells (S.get (i := 7) rfl).choose_spec) (S.get (i := 6) rfl).choose_spec; (with_reducible refine Calls.mono hcz ?_); clear hcz; rintro e wz ⟨adk, cpk, rfl, T⟩; replace S := S.join T rfl; clear T; simp only [List.cons_append, List.nil_append] at S) | ((with_reducible refine tot_done ?ht ?_); (case ht => kernel_rfl))
        refine ⟨_, S.pick [1, 2, 3, 4, 5, 6, 7, 8, 0] rfl, ?_⟩
        clear S
        (refine W_mid (f := 4) (soft := [9, 10, 11, 12]) rfl ?hB ?_); (case hB => decide +kernel)
        iterate 4
          (with_reducible apply softs_cons)
          (case hw =>
            (with_reducible apply soft_of); (case hi => rfl)
            intro T wz S
            simp only [List.cons_append, List.nil_append] at S
            go_wp2_with first | ((with_reducible refine tot_done ?ht ?_); (case ht => kernel_rfl))
            exact ⟨rfl, S⟩)
          (case hs => exact ⟨_, rfl, by kernel_rfl⟩)
        refine softs_nil ?_
        (with_reducible apply W_hard1 (i := 13)); (case hn => rfl); (case hr => decide +kernel)
        intro wz S
        (with_reducible apply hard_of); (case hi => rfl)
        simp only [List.cons_append, List.nil_append] at S
        go_wp2_with first | ((with_reducible apply wps_alloca (E := 28) S); (case hz => exact Tryd.zeroValue28); clear S; intro b10 wz S) | ((with_reducible refine tot_done ?ht ?_); (case ht => kernel_rfl))
        refine ⟨_, S.pick [1, 2, 3, 4, 5, 6, 7, 8, 9, 0] rfl, ?_⟩
        clear S
        (with_reducible apply W_hard1 (i := 14)); (case hn => rfl); (case hr => decide +kernel)
        intro wz S
        (with_reducible apply hard_of); (case hi => rfl)
        simp only [List.cons_append, List.nil_append] at S
        go_wp2_with first | ((with_reducible apply wps_storea (T := 28) S 9 (vs := [.int .i64 s2.n0, .int .i64 s2.n1, .int .i64 s2.n2, .int .i64 s2.n3]) (m := 4)); (case hx | hy | hi | hm | h1 => rfl); (case hn => exact Nat.le_of_ble_eq_true rfl); (case hT => decide +kernel); clear S; intro wz S; simp only [List.set_cons_zero, List.set_cons_succ, setAll, List.setIfInBounds_toArray] at S) | ((with_reducible refine tot_done ?ht ?_); (case ht => kernel_rfl))
        refine ⟨_, S, ?_⟩
        clear S
        (refine W_mid (f := 0) (soft := [15, 16]) rfl ?hB ?_); (case hB => decide +kernel)
        iterate 2
          (with_reducible apply softs_cons)
          (case hw =>
            (with_reducible apply soft_of); (case hi => rfl)
            intro T wz S
            simp only [List.cons_append, List.nil_append] at S
            go_wp2_with first | ((with_reducible refine tot_done ?ht ?_); (case ht => kernel_rfl))
            exact ⟨rfl, S⟩)
          (case hs => exact ⟨_, rfl, by kernel_rfl⟩)
        refine softs_nil ?_
        (with_reducible apply W_done); (case hn => rfl); (case hr => decide +kernel)
        intro wz S
        repeat (first | simp only at S | simp only [pick] at S | simp only [nth] at S | simp only [List.set_cons_succ] at S | simp only [List.set_cons_zero] at S | simp only [List.setIfInBounds_toArray] at S | simp only [setAll] at S | simp only [List.cons_append] at S | simp only [List.nil_append] at S | simp only [List.append_nil] at S)
      rotate_left 1
      focus
        intro wz S
        (with_reducible apply hard_of); (case hi => rfl)
        simp only [List.cons_append, List.nil_append] at S
        go_wp2_with first | ((with_reducible apply wps_alloca (E := 28) S); (case hz => exact Tryd.zeroValue28); clear S; intro b10 wz S) | ((with_reducible refine tot_done ?ht ?_); (case ht => kernel_rfl))
        refine ⟨_, S.pick [1, 2, 3, 4, 5, 6, 7, 8, 0] rfl, ?_⟩
        clear S
        (with_reducible apply W_hard1 (i := 8)); (case hn => rfl); (case hr => decide +kernel)
        intro wz S
        (with_reducible apply hard_of); (case hi => rfl)
        simp only [List.cons_append, List.nil_append] at S
        go_wp2_with first | (go_at_call 8; have hcz := HB2.out _ _ _ _ _ (S.get (i := 3) rfl).choose_spec (own_sl (sh := true) ecells (S.get (i := 7) rfl).choose_spec) (S.get (i := 6) rfl).choose_spec; (with_reducible refine Calls.mono hcz ?_); clear hcz; rintro e wz ⟨adk, cpk, rfl, T⟩; replace S := S.join T rfl; clear T; simp only [List.cons_append, List.nil_append] at S) | ((with_reducible refine tot_done ?ht ?_); (case ht => kernel_rfl))
        refine ⟨_, S.pick [1, 2, 3, 4, 5, 6, 7, 8, 0, 9] rfl, ?_⟩
        clear S
        (refine W_mid (f := 3) (soft := [9, 10, 11, 12]) rfl ?hB ?_); (case hB => decide +kernel)
        iterate 4
          (with_reducible apply softs_cons)
          (case hw =>
            (with_reducible apply soft_of); (case hi => rfl)
            intro T wz S
            simp only [List.cons_append, List.nil_append] at S
            go_wp2_with first | ((with_reducible refine tot_done ?ht ?_); (case ht => kernel_rfl))
            exact ⟨rfl, S⟩)
          (case hs => exact ⟨_, rfl, by kernel_rfl⟩)
        refine softs_nil ?_
        (with_reducible apply W_hard1 (i := 14)); (case hn => rfl); (case hr => decide +kernel)
        intro wz S
        (with_reducible apply hard_of); (case hi => rfl)
        simp only [List.cons_append, List.nil_append] at S
        go_wp2_with first | ((with_reducible apply wps_storea (T := 28) S 9 (vs := [.int .i64 s2.n0, .int .i64 s2.n1, .int .i64 s2.n2, .int .i64 s2.n3]) (m := 4)); (case hx | hy | hi | hm | h1 => rfl); (case hn => exact Nat.le_of_ble_eq_true rfl); (case hT => decide +kernel); clear S; intro wz S; simp only [List.set_cons_zero, List.set_cons_succ, setAll, List.setIfInBounds_toArray] at S) | ((with_reducible refine tot_done ?ht ?_); (case ht => kernel_rfl))
        refine ⟨_, S, ?_⟩
        clear S
        (refine W_mid (f := 0) (soft := [15, 16]) rfl ?hB ?_); (case hB => decide +kernel)
        iterate 2
          (with_reducible apply softs_cons)
          (case hw =>
            (with_reducible apply soft_of); (case hi => rfl)
            intro T wz S
            simp only [List.cons_append, List.nil_append] at S
            go_wp2_with first | ((with_reducible refine tot_done ?ht ?_); (case ht => kernel_rfl))
            exact ⟨rfl, S⟩)
          (case hs => exact ⟨_, rfl, by kernel_rfl⟩)
        refine softs_nil ?_
        (with_reducible apply W_done); (case hn => rfl); (case hr => decide +kernel)
        intro wz S
        repeat (first | simp only at S | simp only [pick] at S | simp only [nth] at S | simp only [List.set_cons_succ] at S | simp only [List.set_cons_zero] at S | simp only [List.setIfInBounds_toArray] at S | simp only [setAll] at S | simp only [List.cons_append] at S | simp only [List.nil_append] at S | simp only [List.append_nil] at S)
    rotate_left 2
    focus
      intro wz S
      (with_reducible apply hard_of); (case hi => rfl)
      simp only [List.cons_append, List.nil_append] at S
      go_wp2_with first | ((with_reducible apply wps_alloca (E := 28) S); (case hz => exact Tryd.zeroValue28); clear S; intro b10 wz S) | ((with_reducible refine tot_done ?ht ?_); (case ht => kernel_rfl))
      refine ⟨_, S.pick [1, 2, 3, 4, 5, 6, 7, 0] rfl, ?_⟩
      clear S
      (with_reducible apply W_hard1 (i := 7)); (case hn => rfl); (case hr => decide +kernel)
      intro wz S
      (with_reducible apply hard_of); (case hi => rfl)
      simp only [List.cons_append, List.nil_append] at S
      go_wp2_with first | (go_at_call 9; refine Calls.mono (HSm.out _ _ _ (S.get (i := 5) rfl).choose_spec) ?_; rintro e wz ⟨adq, cpq, rfl, T⟩; replace S := S.join T rfl; clear T; simp only [List.cons_append, List.nil_append] at S) | ((with_reducible refine tot_done ?ht ?_); (case ht => kernel_rfl))
      refine ⟨_, S.pick [1, 2, 3, 4, 5, 6, 7, 0, 8] rfl, ?_⟩
      clear S
      (with_reducible apply W_hard1 (i := 8)); (case hn => rfl); (case hr => decide +kernel)
      intro wz S
      (with_reducible apply hard_of); (case hi => rfl)
      simp only [List.cons_append, List.nil_append] at S
      go_wp2_with first | (go_at_call 8; have hcz := HB2.out _ _ _ _ _ (S.get (i := 3) rfl).choose_spec (own_sl (sh := true) ecells (S.get (i := 7) rfl).choose_spec) (S.get (i := 6) rfl).choose_spec; (with_reducible refine Calls.mono hcz ?_); clear hcz; rintro e wz ⟨adk, cpk, rfl, T⟩; replace S := S.join T rfl; clear T; simp only [List.cons_append, List.nil_append] at S) | ((with_reducible refine tot_done ?ht ?_); (case ht => kernel_rfl))
      refine ⟨_, S.pick [1, 2, 3, 4, 5, 6, 7, 8, 0, 9] rfl, ?_⟩
      clear S
      (refine W_mid (f := 3) (soft := [9, 10, 11, 12]) rfl ?hB ?_); (case hB => decide +kernel)
      iterate 4
        (with_reducible apply softs_cons)
        (case hw =>
          (with_reducible apply soft_of); (case hi => rfl)
          intro T wz S
          simp only [List.cons_append, List.nil_append] at S
          go_wp2_with first | ((with_reducible refine tot_done ?ht ?_); (case ht => kernel_rfl))
          exact ⟨rfl, S⟩)
        (case hs => exact ⟨_, rfl, by kernel_rfl⟩)
      refine softs_nil ?_
      (with_reducible apply W_hard1 (i := 14)); (case hn => rfl); (case hr => decide +kernel)
      intro wz S
      (with_reducible apply hard_of); (case hi => rfl)
      simp only [List.cons_append, List.nil_append] at S
      go_wp2_with first | ((with_reducible apply wps_storea (T := 28) S 9 (vs := [.int .i64 s2.n0, .int .i64 s2.n1, .int .i64 s2.n2, .int .i64 s2.n3]) (m := 4)); (case hx | hy | hi | hm | h1 => rfl); (case hn => exact Nat.le_of_ble_eq_true rfl); (case hT => decide +kernel); clear S; intro wz S; simp only [List.set_cons_zero, List.set_cons_succ, setAll, List.setIfInBounds_toArray] at S) | ((with_reducible refine tot_done ?ht ?_); (case ht => kernel_rfl))
      refine ⟨_, S, ?_⟩
      clear S
      (refine W_mid (f := 0) (soft := [15, 16]) rfl ?hB ?_); (case hB => decide +kernel)
      iterate 2
        (with_reducible apply softs_cons)
        (case hw =>
          (with_reducible apply soft_of); (case hi => rfl)
          intro T wz S
          simp only [List.cons_append, List.nil_append] at S
          go_wp2_with first | ((with_reducible refine tot_done ?ht ?_); (case ht => kernel_rfl))
          exact ⟨rfl, S⟩)
        (case hs => exact ⟨_, rfl, by kernel_rfl⟩)
      refine softs_nil ?_
      (with_reducible apply W_done); (case hn => rfl); (case hr => decide +kernel)
      intro wz S
      repeat (first | simp only at S | simp only [pick] at S | simp only [nth] at S | simp only [List.set_cons_succ] at S | simp only [List.set_cons_zero] at S | simp only [List.setIfInBounds_toArray] at S | simp only [setAll] at S | simp only [List.cons_append] at S | simp only [List.nil_append] at S | simp only [List.append_nil] at S)
    all_goals
      clear HSm HB2 HR1
      replace S := (S.freeze true 8 ecells rfl).nil 52 Event.cells 7
      simp only [List.set_cons_zero, List.set_cons_succ] at S
      replace S := S.pick [0, 1, 2, 3, 4, 5, 6, 7, 9, 10] rfl
      simp only [pick, nth] at S
      go_wp2_with first | ((with_reducible apply wps_load S 5); (case hx | hi | hu => rfl); (case hT => decide +kernel))
      go_loopw [13, 14] (fun out_ i wr => RuRel [Blk false b8 #[.int .i64 s2.n0, .int .i64 s2.n1, .int .i64 s2.n2, .int .i64 s2.n3] 28, Sl true Event.cells 7 (.slice ado out.length cpo) out, Blk false b7 #[.pointer (some ⟨R, 0, none⟩)] 42, ModA true 117 R vs3 hs3 c, Blk false by_ #[.int .i64 lp, .int .i64 s.n0, .int .i64 s.n1, .int .i64 s.n2, .int .i64 s.n3, .slice ad l.length cp] 31, Sl true Event.cells 7 (.slice ad l.length cp) l, Tab, Sl true Event.cells 7 (.slice adk out.length cpk) out, Blk false b10 #[.int .i64 s2.n0, .int .i64 s2.n1, .int .i64 s2.n2, .int .i64 s2.n3] 28] l w out_ i wr) (fun _ i _ => (intOf i + 1).toNat)
      case atStart => exact ⟨(l.length : Int) - 1, l.length, [], Nat.le_refl _, by go_num, Lib.hid (by omega), Lib.hid (by simp), by simp, S⟩
      case round =>
        clear S
        obtain ⟨z, j, lb, hj, rfl, HZ, HLB, hlb, S⟩ := hrel
        obtain ⟨ae, ce, rfl, _⟩ := (S.ownsl ecells 0 rfl).elim fun _ h => h.form
        by_cases hz : 0 ≤ z
        · obtain ⟨k, rfl⟩ := Int.eq_ofNat_of_zero_le hz
          have hkl : k < l.length := by have := HZ.out; omega
          have HJ : Hid (j = k + 1) := Lib.hid (by have := HZ.out; omega)
          obtain ⟨x, hx⟩ : ∃ x, l[k]? = some x := ⟨_, List.getElem?_eq_getElem hkl⟩
          obtain ⟨R1, o1, rfl⟩ : ∃ R o, ad = some ⟨R, o, none⟩ := (S.sl 6 rfl).elim fun F h => h.head (by omega)
          have hkl2 : (k : Int) < l.length := by omega
          have hlb2 : lb.length ≤ l.length - (k + 1) := by rw [HLB.out, HJ.out, List.length_reverse, List.length_drop]; exact Nat.le_refl _
          have hc1 : lb.length < 4294967296 := by omega
          have HLB2 : Hid (lb ++ [x] = (l.drop k).reverse) := Lib.hid (by rw [drop_revR hx, HLB.out, HJ.out])
          have Hx := Lib.hid hx
          clear hx
          go_wp2_with first | ((with_reducible apply wps_load S 5); (case hx | hi | hu => rfl); (case hT => decide +kernel)) | ((with_reducible apply wps_loada_el S 6 (hj := Hx.out) (q := 0) (vs := [.int .i64 x.key.at_, .int .i64 x.key.src, .int .i64 x.key.sent, .int .i64 x.key.no, .int .i64 x.dst, .int .i64 x.kind, .int .i64 x.data]) (m := 7)); (case hx | hi => rfl); (case hn => omega); (case hm | hv => rfl); (case hT => decide +kernel)) | ((with_reducible apply wps_build1a (T := 29) (E := 52) S); (case hx => rfl); (case hr => intro w; kernel_rfl); clear S; intro bz wz S) | ((with_reducible apply wps_append1 elem_Ev ecells eone (by decide) S 1 (j := 0) (e := x)); (case hx | hy | hi | hj | he => rfl); (case hl => first | omega | (simp; omega)); clear S; intro az nz cz wz hnz S; simp only [List.set_cons_succ, List.set_cons_zero] at S)
          go_roundw
          case rel => exact ⟨(k : Int) - 1, k, lb ++ [x], by omega, by go_num, Lib.hid (by omega), HLB2, by rw [List.length_append]; show lb.length + 1 ≤ 40; omega, S.pick [1, 2, 3, 4, 5, 6, 7, 8, 9, 10] rfl⟩
          case measure => first | (simp [intOf]; done) | (simp [intOf]; omega)
        · obtain rfl : j = 0 := by have := HZ.out; omega
          have hz2 : z < 0 := by omega
          have hlb2 : lb = l.reverse := by rw [HLB.out, List.drop_zero]
          have HR3 := HR2
          rw [← hlb2] at HR3
          clear HLB HZ hj hz hlb hlb2 HR2
          go_wp2_with first | ((with_reducible apply wps_loada (T := 42) (k := 1) S 3); (case hx | hi => rfl); (case hk => exact Nat.le_of_ble_eq_true rfl); (case hT => decide +kernel)) | ((with_reducible apply wps_load S 5); (case hx | hi | hu => rfl); (case hT => decide +kernel)) | ((with_reducible apply wps_loada (T := 28) (k := 4) S 5); (case hx | hi => rfl); (case hk => exact Nat.le_of_ble_eq_true rfl); (case hT => decide +kernel)) | (go_at_call 7; have hcz := HR3.out _ _ _ _ _ (S.get (i := 4) rfl).choose_spec (own_sl (sh := true) ecells (S.get (i := 0) rfl).choose_spec) (S.get (i := 7) rfl).choose_spec; (with_reducible refine Calls.mono hcz ?_); clear hcz; rintro e wz ⟨adn, cpn, rfl, T⟩; replace S := S.join T rfl; clear T; simp only [List.cons_append, List.nil_append] at S) | ((with_reducible apply wps_alloca (E := 28) S); (case hz => exact Tryd.zeroValue28); clear S; intro b15 wz S) | ((with_reducible apply wps_storea (T := 28) S 0 (vs := [.int .i64 s2.n0, .int .i64 s2.n1, .int .i64 s2.n2, .int .i64 s2.n3]) (m := 4)); (case hx | hy | hi | hm | h1 => rfl); (case hn => exact Nat.le_of_ble_eq_true rfl); (case hT => decide +kernel); clear S; intro wz S; simp only [List.set_cons_zero, List.set_cons_succ, setAll, List.setIfInBounds_toArray] at S) | ((with_reducible apply wps_loada (T := 28) (k := 4) S 3); (case hx | hi => rfl); (case hk => exact Nat.le_of_ble_eq_true rfl); (case hT => decide +kernel)) | ((with_reducible apply wps_loada (T := 28) (k := 4) S 11); (case hx | hi => rfl); (case hk => exact Nat.le_of_ble_eq_true rfl); (case hT => decide +kernel)) | ((with_reducible apply wps_loada (T := 28) (k := 4) S 0); (case hx | hi => rfl); (case hk => exact Nat.le_of_ble_eq_true rfl); (case hT => decide +kernel)) | ((with_reducible apply wpList_eql_agg (t := 28) (ks := [.int .i64, .int .i64, .int .i64, .int .i64]) (b := _)); (case hx | hy => rfl); (case hl | ha | hg => kernel_rfl); (case hfx | hfy => rfl); (case hb => exact HE.out)) | (go_at_call 10; have hcz := HEv.out _ _ _ _ _ (S.get (i := 4) rfl).choose_spec (S.get (i := 10) rfl).choose_spec; (with_reducible refine Calls.mono hcz ?_); clear hcz; rintro e wz ⟨rfl, hE⟩; replace S := S.ext (Keep.of_below hE); clear hE) | (go_at_call 10; have hcz := HEv.out _ _ _ _ _ (own_sl (sh := true) ecells (S.get (i := 1) rfl).choose_spec) (S.get (i := 4) rfl).choose_spec; (with_reducible refine Calls.mono hcz ?_); clear hcz; rintro e wz ⟨rfl, hE⟩; replace S := S.ext (Keep.of_below hE); clear hE) | (go_at_call 6; refine Calls.mono (awake16_calls _ _ (S.get (i := 9) rfl).choose_spec) ?_; rintro e wz ⟨rfl, hE⟩; replace S := S.ext (Keep.of_below hE); clear hE)
          go_ret
          exact ⟨rfl, S.below⟩
end Go.Proofs.YtjmecncebdbhdaaDoor

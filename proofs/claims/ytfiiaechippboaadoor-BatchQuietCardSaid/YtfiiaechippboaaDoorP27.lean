import Derived.Test.YtfiiaechippboaaDoorP25
/- The walk of the law BatchQuiet. -/
namespace Go.Proofs.YtfiiaechippboaaDoor
open Go Go.RowKit Reg Mem

/-- What a batch comes to, wrong or not. -/
def resC (c : Cfg) (lp : Int) (s : State) (l : List Event) : State × List Event := if wrongE c.lps.length lp l = 0 then batchC c lp s l else (⟨0, 0, 0, 0⟩, [])
def BRunU (c : Cfg) (lp : Int) (s : State) (l : List Event) (w : World) (r : Ending) (w' : World) : Prop :=
  ∃ v, r = .returned (.tuple #[.agg #[.int .i64 (resC c lp s l).1.n0, .int .i64 (resC c lp s l).1.n1, .int .i64 (resC c lp s l).1.n2, .int .i64 (resC c lp s l).1.n3], v, .int .i64 (wrongE c.lps.length lp l)]) ∧
    St (fun _ => False) w w' [Own 54 Event.cells 7 v (resC c lp s l).2]
theorem brunU {c : Cfg} {lp : Int} {s : State} {l : List Event} {w : World} {r : Ending} {w' : World} (h : BRunPost c lp s l w r w') : BRunU c lp s l w r w' := by
  unfold BRunU resC
  rcases h with ⟨hne, rfl, hE⟩ | ⟨h0, v, rfl, S⟩
  · rw [if_neg hne]
    exact ⟨_, rfl, ((St.init _ w).ext (Keep.of_below hE)).nil 54 Event.cells 7⟩
  · rw [if_pos h0, h0]
    exact ⟨v, rfl, S⟩
theorem sls_nils (w : World) (n : Nat) : (Sls true Instr.cells 5 (List.replicate n (.slice none 0 0)) (List.replicate n [])).at_ w (fun b => b < w.heap.size) := by
  refine ⟨⟨by simp, fun i v xs hv hx => ?_⟩, fun _ h => h⟩
  obtain ⟨_, rfl⟩ := List.mem_replicate.1 (List.mem_of_getElem? hv)
  obtain ⟨_, rfl⟩ := List.mem_replicate.1 (List.mem_of_getElem? hx)
  exact ⟨none, 0, rfl, Nat.le_refl _, fun _ => rfl, fun i y h => by simp at h⟩
theorem still_wide {c : Cfg} (h : fewB c = true) : Wide (stillC c) ∧ WideB (stillC c) := by
  have hf := few_iff.1 h
  have z : ∀ x ∈ (stillC c).programs, x.length = 0 := fun x hx => by obtain ⟨_, rfl⟩ := List.mem_replicate.1 hx; rfl
  have e : (stillC c).programs.length = c.programs.length := by simp [stillC]
  exact ⟨⟨by rw [e]; unfold maxLen; omega, fun x hx => by rw [z x hx]; exact Nat.zero_le _, by unfold maxLen; show c.lps.length ≤ _; omega, by unfold maxLen; show c.starts.length ≤ _; omega⟩,
    ⟨by rw [e]; omega, fun x hx => by rw [z x hx]; omega, by show c.lps.length * 40 ≤ _; omega, by show c.starts.length * 32 ≤ _; omega⟩⟩
theorem late_wide {c : Cfg} {t : Int} (h : fewB c = true) : Wide (lateC c t) ∧ WideB (lateC c t) := by
  have hf := few_iff.1 h
  exact ⟨⟨by unfold maxLen; show c.programs.length ≤ _; omega, fun x hx => by unfold maxLen; have := hf.1 x hx; omega, by unfold maxLen; show c.lps.length ≤ _; omega, by unfold maxLen; show 0 ≤ _; omega⟩,
    ⟨by show c.programs.length * 24 ≤ _; omega, fun x hx => by have := hf.1 x hx; omega, by show c.lps.length * 40 ≤ _; omega, by show 0 * 32 ≤ _; omega⟩⟩
set_option maxRecDepth 100000 in
set_option maxHeartbeats 16000000 in
theorem batchQuiet_calls (vs hs : List Value) (c : Cfg) (lp : Int) (s : State) (v : Value) (l : List Event) (w : World) (F F2 F3 : Nat → Prop) (h : (CfgA true vs hs c).at_ w F) (hw : Wide c) (hwb : WideB c) (h2 : (Sl true Event.cells 7 v l).at_ w F2) (hlen : l.length ≤ 9223372036854775807) (ht : Tab.at_ w F3) :
    Calls Tryd.prog 4 #[.agg vs.toArray, .agg #[.int .i64 lp, .int .i64 s.n0, .int .i64 s.n1, .int .i64 s.n2, .int .i64 s.n3, v]] w fun r w' => r = .returned (.bool true) ∧ Below w.heap.size w w' := by
  have S : St (fun _ => False) w w [CfgA true vs hs c, Sl true Event.cells 7 v l, Tab] := (((St.init _ w).share rfl rfl ht).share (A := Sl true Event.cells 7 v l) rfl rfl h2).share rfl rfl h
  clear h h2 ht
  obtain ⟨ad, cp, rfl, _⟩ := (S.sl 1 rfl).elim fun _ h => h.form
  obtain ⟨aP, cP, aL, cL, aS, cS, rfl, _, SC⟩ := S.cfg 0 rfl
  clear S
  have S := SC.pick [4, 5, 6, 0, 1, 2, 3] rfl
  repeat (first | simp only at S | simp only [pick] at S | simp only [nth] at S | simp only [List.set_cons_succ] at S | simp only [List.set_cons_zero] at S | simp only [List.setIfInBounds_toArray] at S | simp only [setAll] at S | simp only [List.cons_append] at S | simp only [List.nil_append] at S)
  clear SC
  have HMd := Lib.hid fun w F F2 h ht => made_calls [.slice aP c.programs.length cP, .slice aL c.lps.length cL, .slice aS c.starts.length cS, .int .i64 c.fin, .int .i64 c.fuel, .int .i64 c.fan] hs c w F F2 h hw hwb ht
  have HTm := Lib.hid fun w F h => timely_calls (.slice ad l.length cp) l w F h hlen
  clear hw hwb
  go_enter Tryd.func4, Tryd.ntmps4
  go_wp2_with first
    | go_skip
    | ((with_reducible refine wpList_skip ?hw ?_); (case hw => with_unfolding_all rfl); simp only [Act.put, List.setIfInBounds_toArray, List.set_cons_succ, List.set_cons_zero])
    | ((with_reducible refine tot_done ?ht ?_); (case ht => kernel_rfl))
    | ((with_reducible apply wps_boxa (E := 26) S); (case hx => rfl); clear S; intro bx wz S)
    | ((with_reducible apply wps_boxa (E := 31) S); (case hx => rfl); clear S; intro by_ wz S)
    | ((with_reducible apply wps_loada (T := 26) (k := 6) S 1); (case hx => rfl); (case hi => rfl); (case hT => decide +kernel); (case hk => exact Nat.le_of_ble_eq_true rfl))
  refine Calls.mono (HMd.out _ _ _ (S.get (i := 2) rfl).choose_spec (S.get (i := 4) rfl).choose_spec) ?_
  clear HMd
  rintro r wz ⟨pv, vs2, hs2, rfl, (⟨hm, rfl, T⟩ | ⟨hm, R, vs3, hs3, rfl, T⟩)⟩
  · replace S := ((S.join T rfl).cfgShare 0 rfl).pick [0, 1, 2, 3, 4, 5] rfl
    repeat (first | simp only at S | simp only [pick] at S | simp only [nth] at S | simp only [List.set_cons_succ] at S | simp only [List.set_cons_zero] at S | simp only [List.setIfInBounds_toArray] at S | simp only [setAll] at S | simp only [List.cons_append] at S | simp only [List.nil_append] at S)
    clear T hm
    obtain ⟨aP2, cP2, aL2, cL2, aS2, cS2, rfl, _, _⟩ := S.cfg 0 rfl
    go_wp2_with first
      | go_skip
      | ((with_reducible refine wpList_skip ?hw ?_); (case hw => with_unfolding_all rfl); simp only [Act.put, List.setIfInBounds_toArray, List.set_cons_succ, List.set_cons_zero])
      | ((with_reducible refine tot_done ?ht ?_); (case ht => kernel_rfl))
      | ((with_reducible apply wps_alloca (E := 37) S); (case hz => exact Tryd.zeroValue37); clear S; intro b6 wz S)
      | ((with_reducible apply wps_storea (T := 37) S 0 (vs := [.slice aP2 c.programs.length cP2, .slice aL2 c.lps.length cL2, .slice aS2 c.starts.length cS2, .int .i64 c.fin, .int .i64 c.fuel, .int .i64 c.fan]) (m := 6)); (case hx => rfl); (case hy => rfl); (case hi => rfl); (case hT => decide +kernel); (case hm => rfl); (case h1 => rfl); (case hn => exact Nat.le_of_ble_eq_true rfl); clear S; intro wz S; simp only [List.set_cons_zero, List.set_cons_succ, setAll, List.setIfInBounds_toArray] at S)
      | (go_at_call 11; refine Calls.mono (awake8_calls _ _ (S.get (i := 6) rfl).choose_spec) ?_; rintro e wz ⟨rfl, hE⟩; replace S := S.ext (Keep.of_below hE); clear hE)
    go_ret
    exact ⟨rfl, S.below⟩
  replace S := ((S.join T rfl).modShare 0 rfl).cfgShare 1 rfl
  repeat (first | simp only at S | simp only [pick] at S | simp only [nth] at S | simp only [List.set_cons_succ] at S | simp only [List.set_cons_zero] at S | simp only [List.setIfInBounds_toArray] at S | simp only [setAll] at S | simp only [List.cons_append] at S | simp only [List.nil_append] at S)
  clear T
  obtain ⟨aP2, cP2, aL2, cL2, aS2, cS2, rfl, _, _⟩ := S.cfg 1 rfl
  have hfw : fewB c = true ∧ cfgE c = 0 := by unfold madeB at hm; rw [Bool.and_eq_true, decide_eq_true_eq] at hm; exact hm
  have HC := Lib.hid hfw.2
  have HFw := Lib.hid hfw.1
  have Hm := Lib.hid hm
  clear hm hfw
  cases htm : timelyB l with
  | false =>
    rw [htm] at HTm
    clear htm
    go_wp2_with first
      | go_skip
      | ((with_reducible refine wpList_skip ?hw ?_); (case hw => with_unfolding_all rfl); simp only [Act.put, List.setIfInBounds_toArray, List.set_cons_succ, List.set_cons_zero])
      | ((with_reducible refine tot_done ?ht ?_); (case ht => kernel_rfl))
      | ((with_reducible apply wps_alloca (E := 37) S); (case hz => exact Tryd.zeroValue37); clear S; intro b6 wz S)
      | ((with_reducible apply wps_storea (T := 37) S 0 (vs := [.slice aP2 c.programs.length cP2, .slice aL2 c.lps.length cL2, .slice aS2 c.starts.length cS2, .int .i64 c.fin, .int .i64 c.fuel, .int .i64 c.fan]) (m := 6)); (case hx => rfl); (case hy => rfl); (case hi => rfl); (case hT => decide +kernel); (case hm => rfl); (case h1 => rfl); (case hn => exact Nat.le_of_ble_eq_true rfl); clear S; intro wz S; simp only [List.set_cons_zero, List.set_cons_succ, setAll, List.setIfInBounds_toArray] at S)
      | ((with_reducible apply wps_load S 3); (case hx => rfl); (case hi => rfl); (case hT => decide +kernel); (case hu => rfl))
      | (go_at_call 10; refine Calls.mono (HTm.out _ _ (S.get (i := 6) rfl).choose_spec) ?_; rintro e wz ⟨rfl, hE⟩; replace S := S.ext (Keep.of_below hE); clear hE)
      | (go_at_call 11; refine Calls.mono (awake8_calls _ _ (S.get (i := 7) rfl).choose_spec) ?_; rintro e wz ⟨rfl, hE⟩; replace S := S.ext (Keep.of_below hE); clear hE)
    go_ret
    exact ⟨rfl, S.below⟩
  | true =>
  rw [htm] at HTm
  have htl : (∀ x ∈ l, 0 ≤ x.key.at_ ∧ x.key.at_ ≤ 1073741824) ∧ l.length ≤ 20 := by unfold timelyB at htm; rw [Bool.and_eq_true, decide_eq_true_eq, decide_eq_true_eq] at htm; exact htm
  clear htm
  obtain ⟨hta, htn⟩ := htl
  by_cases hl0 : l.length = 0
  · have hl0b : (((l.length : Nat) : Int) == 0) = true := by rw [hl0]; rfl
    clear hta htn hl0
    go_wp2_with first
      | go_skip
      | ((with_reducible refine wpList_skip ?hw ?_); (case hw => with_unfolding_all rfl); simp only [Act.put, List.setIfInBounds_toArray, List.set_cons_succ, List.set_cons_zero])
      | ((with_reducible refine tot_done ?ht ?_); (case ht => kernel_rfl))
      | ((with_reducible apply wps_alloca (E := 37) S); (case hz => exact Tryd.zeroValue37); clear S; intro b6 wz S)
      | ((with_reducible apply wps_storea (T := 37) S 0 (vs := [.slice aP2 c.programs.length cP2, .slice aL2 c.lps.length cL2, .slice aS2 c.starts.length cS2, .int .i64 c.fin, .int .i64 c.fuel, .int .i64 c.fan]) (m := 6)); (case hx => rfl); (case hy => rfl); (case hi => rfl); (case hT => decide +kernel); (case hm => rfl); (case h1 => rfl); (case hn => exact Nat.le_of_ble_eq_true rfl); clear S; intro wz S; simp only [List.set_cons_zero, List.set_cons_succ, setAll, List.setIfInBounds_toArray] at S)
      | ((with_reducible apply wps_load S 3); (case hx => rfl); (case hi => rfl); (case hT => decide +kernel); (case hu => rfl))
      | (go_at_call 10; refine Calls.mono (HTm.out _ _ (S.get (i := 6) rfl).choose_spec) ?_; rintro e wz ⟨rfl, hE⟩; replace S := S.ext (Keep.of_below hE); clear hE)
      | (go_at_call 11; refine Calls.mono (awake8_calls _ _ (S.get (i := 7) rfl).choose_spec) ?_; rintro e wz ⟨rfl, hE⟩; replace S := S.ext (Keep.of_below hE); clear hE)
    go_ret
    exact ⟨rfl, S.below⟩
  have hl1 : 0 < l.length := by omega
  have hl1b : (0 : Int) < l.length := by omega
  have hl1c : (((l.length : Nat) : Int) == 0) = false := by rw [beq_eq_false_iff_ne]; omega
  obtain ⟨x0, hx0⟩ : ∃ x, l[0]? = some x := ⟨_, List.getElem?_eq_getElem hl1⟩
  have ha0 := atE_get hx0
  have hat0 := hta x0 (List.mem_of_getElem? hx0)
  obtain ⟨R0, o0, rfl⟩ : ∃ R o, ad = some ⟨R, o, none⟩ := (S.sl 5 rfl).elim fun F h => h.head hl1
  have HB1 := Lib.hid fun w F F2 F3 h h2 ht => (brun_calls R vs3 hs3 c lp s (.slice (some ⟨R0, o0, none⟩) l.length cp) l w F F2 F3 h h2 ht (by omega) HC.out (fun _ => by rw [ha0]; exact hat0)).mono (fun _ _ h => brunU h)
  have Hat0 := Lib.hid hat0
  have Htn := Lib.hid htn
  have Ha0 := Lib.hid ha0
  clear hta htn hl0 hat0 ha0
  have Hx0 := Lib.hid hx0
  clear hx0
  go_wp2_with first
    | go_skip
    | ((with_reducible refine wpList_skip ?hw ?_); (case hw => with_unfolding_all rfl); simp only [Act.put, List.setIfInBounds_toArray, List.set_cons_succ, List.set_cons_zero])
    | ((with_reducible refine tot_done ?ht ?_); (case ht => kernel_rfl))
    | ((with_reducible apply wps_alloca (E := 37) S); (case hz => exact Tryd.zeroValue37); clear S; intro b6 wz S)
    | ((with_reducible apply wps_storea (T := 37) S 0 (vs := [.slice aP2 c.programs.length cP2, .slice aL2 c.lps.length cL2, .slice aS2 c.starts.length cS2, .int .i64 c.fin, .int .i64 c.fuel, .int .i64 c.fan]) (m := 6)); (case hx => rfl); (case hy => rfl); (case hi => rfl); (case hT => decide +kernel); (case hm => rfl); (case h1 => rfl); (case hn => exact Nat.le_of_ble_eq_true rfl); clear S; intro wz S; simp only [List.set_cons_zero, List.set_cons_succ, setAll, List.setIfInBounds_toArray] at S)
    | ((with_reducible apply wps_load S 3); (case hx => rfl); (case hi => rfl); (case hT => decide +kernel); (case hu => rfl))
    | ((with_reducible apply wps_loada (T := 28) (k := 4) S 3); (case hx => rfl); (case hi => rfl); (case hT => decide +kernel); (case hk => exact Nat.le_of_ble_eq_true rfl))
    | (go_at_call 10; refine Calls.mono (HTm.out _ _ (S.get (i := 6) rfl).choose_spec) ?_; rintro e wz ⟨rfl, hE⟩; replace S := S.ext (Keep.of_below hE); clear hE)
  refine Calls.mono (HB1.out _ _ _ _ (S.get (i := 1) rfl).choose_spec (S.get (i := 6) rfl).choose_spec (S.get (i := 7) rfl).choose_spec) ?_
  clear HB1 HTm
  rintro r wz ⟨v2, rfl, T⟩
  replace S := (S.join T rfl).pick [2, 4, 5, 6, 7, 8, 9, 10, 11, 12] rfl
  repeat (first | simp only at S | simp only [pick] at S | simp only [nth] at S | simp only [List.set_cons_succ] at S | simp only [List.set_cons_zero] at S | simp only [List.setIfInBounds_toArray] at S | simp only [setAll] at S | simp only [List.cons_append] at S | simp only [List.nil_append] at S)
  clear T
  obtain ⟨e, He⟩ : ∃ e, Hid (wrongE c.lps.length lp l = e) := ⟨_, rfl⟩
  rw [He.out]
  obtain ⟨st1, Hst1⟩ : ∃ st, Hid ((resC c lp s l).1 = st) := ⟨_, rfl⟩
  rw [Hst1.out]
  have hn24 : c.programs.length ≤ 4294967296 := by have := (few_iff.1 HFw.out).2.1; omega
  go_wp2_with first
    | go_skip
    | ((with_reducible refine wpList_skip ?hw ?_); (case hw => with_unfolding_all rfl); simp only [Act.put, List.setIfInBounds_toArray, List.set_cons_succ, List.set_cons_zero])
    | ((with_reducible refine tot_done ?ht ?_); (case ht => kernel_rfl))
    | ((with_reducible apply wps_alloca (E := 28) S); (case hz => exact Tryd.zeroValue28); clear S; intro b7 wz S)
    | ((with_reducible apply wps_storea (T := 28) S 0 (vs := [.int .i64 st1.n0, .int .i64 st1.n1, .int .i64 st1.n2, .int .i64 st1.n3]) (m := 4)); (case hx => rfl); (case hy => rfl); (case hi => rfl); (case hT => decide +kernel); (case hm => rfl); (case h1 => rfl); (case hn => exact Nat.le_of_ble_eq_true rfl); clear S; intro wz S; simp only [List.set_cons_zero, List.set_cons_succ, setAll, List.setIfInBounds_toArray] at S)
    | ((with_reducible apply wps_loada (T := 26) (k := 6) S 3); (case hx => rfl); (case hi => rfl); (case hT => decide +kernel); (case hk => exact Nat.le_of_ble_eq_true rfl))
    | ((with_reducible apply wps_alloca (E := 26) S); (case hz => exact Tryd.zeroValue26); clear S; intro b10 wz S)
    | ((with_reducible apply wps_storea (T := 26) S 0 (vs := [.slice aP c.programs.length cP, .slice aL c.lps.length cL, .slice aS c.starts.length cS, .int .i64 c.fin, .int .i64 c.fuel, .int .i64 c.fan]) (m := 6)); (case hx => rfl); (case hy => rfl); (case hi => rfl); (case hT => decide +kernel); (case hm => rfl); (case h1 => rfl); (case hn => exact Nat.le_of_ble_eq_true rfl); clear S; intro wz S; simp only [List.set_cons_zero, List.set_cons_succ, setAll, List.setIfInBounds_toArray] at S)
    | ((with_reducible apply wps_load S 4); (case hx => rfl); (case hi => rfl); (case hT => decide +kernel); (case hu => rfl))
    | ((with_reducible apply wps_make vcells Tryd.underlying22 _ zero_Hdr S (n := c.programs.length)); (case hx => rfl); (case hy => rfl); (case hn => omega); clear S; intro bz wz S)
    | ((with_reducible apply wps_store (u := (.slice (some ⟨bz, 0, none⟩) c.programs.length c.programs.length)) S 1); (case hx => rfl); (case hy => rfl); (case hi => rfl); (case hT => decide +kernel); (case h1 => rfl); (case hn => exact Nat.le_of_ble_eq_true rfl); clear S; intro wz S; simp only [List.set_cons_succ, List.set_cons_zero, List.setIfInBounds_toArray] at S)
    | ((with_reducible apply wps_loada (T := 26) (k := 6) S 1); (case hx => rfl); (case hi => rfl); (case hT => decide +kernel); (case hk => exact Nat.le_of_ble_eq_true rfl))
  have HMd2 := Lib.hid fun w F F2 h ht => made_calls [.slice (some ⟨bz, 0, none⟩) c.programs.length c.programs.length, .slice aL c.lps.length cL, .slice aS c.starts.length cS, .int .i64 c.fin, .int .i64 c.fuel, .int .i64 c.fan] (List.replicate c.programs.length (.slice none 0 0)) (stillC c) w F F2 h (still_wide HFw.out).1 (still_wide HFw.out).2 ht
  have hcfg : ∃ F, (CfgA true [.slice (some ⟨bz, 0, none⟩) c.programs.length c.programs.length, .slice aL c.lps.length cL, .slice aS c.starts.length cS, .int .i64 c.fin, .int .i64 c.fuel, .int .i64 c.fan] (List.replicate c.programs.length (.slice none 0 0)) (stillC c)).at_ wz F :=
    ⟨_, cfg_any (c := stillC c) (own_sl (sh := true) vcells (S.get (i := 0) rfl).choose_spec) (S.get (i := 11) rfl).choose_spec (S.get (i := 12) rfl).choose_spec (sls_nils wz c.programs.length)⟩
  refine Calls.mono (HMd2.out _ _ _ hcfg.choose_spec (S.get (i := 8) rfl).choose_spec) ?_
  clear HMd2 hcfg
  rintro r wz ⟨pv, vs4, hs4, rfl, (⟨hm, rfl, T⟩ | ⟨hm, R2, vs5, hs5, rfl, T⟩)⟩
  · rw [still_ok Hm.out] at hm; cases hm
  have HC2 : Hid (cfgE (stillC c) = 0) := by unfold madeB at hm; rw [Bool.and_eq_true, decide_eq_true_eq] at hm; exact hm.2
  clear hm
  replace S := ((S.join T rfl).modShare 0 rfl).cfgShare 1 rfl
  repeat (first | simp only at S | simp only [pick] at S | simp only [nth] at S | simp only [List.set_cons_succ] at S | simp only [List.set_cons_zero] at S | simp only [List.setIfInBounds_toArray] at S | simp only [setAll] at S | simp only [List.cons_append] at S | simp only [List.nil_append] at S)
  clear T
  obtain ⟨aP3, cP3, aL3, cL3, aS3, cS3, rfl, _, _⟩ := S.cfg 1 rfl
  have HB2 := Lib.hid fun w F F2 F3 h h2 ht => (brun_calls R2 vs5 hs5 (stillC c) lp s (.slice (some ⟨R0, o0, none⟩) l.length cp) l w F F2 F3 h h2 ht (by have := Htn.out; omega) HC2.out (fun _ => by rw [Ha0.out]; exact Hat0.out)).mono (fun _ _ h => brunU h)
  go_wp2_with first
    | go_skip
    | ((with_reducible refine wpList_skip ?hw ?_); (case hw => with_unfolding_all rfl); simp only [Act.put, List.setIfInBounds_toArray, List.set_cons_succ, List.set_cons_zero])
    | ((with_reducible refine tot_done ?ht ?_); (case ht => kernel_rfl))
    | ((with_reducible apply wps_alloca (E := 37) S); (case hz => exact Tryd.zeroValue37); clear S; intro b12 wz S)
    | ((with_reducible apply wps_storea (T := 37) S 0 (vs := [.slice aP3 (stillC c).programs.length cP3, .slice aL3 (stillC c).lps.length cL3, .slice aS3 (stillC c).starts.length cS3, .int .i64 (stillC c).fin, .int .i64 (stillC c).fuel, .int .i64 (stillC c).fan]) (m := 6)); (case hx => rfl); (case hy => rfl); (case hi => rfl); (case hT => decide +kernel); (case hm => rfl); (case h1 => rfl); (case hn => exact Nat.le_of_ble_eq_true rfl); clear S; intro wz S; simp only [List.set_cons_zero, List.set_cons_succ, setAll, List.setIfInBounds_toArray] at S)
    | ((with_reducible apply wps_load S 7); (case hx => rfl); (case hi => rfl); (case hT => decide +kernel); (case hu => rfl))
    | ((with_reducible apply wps_loada (T := 28) (k := 4) S 7); (case hx => rfl); (case hi => rfl); (case hT => decide +kernel); (case hk => exact Nat.le_of_ble_eq_true rfl))
  refine Calls.mono (HB2.out _ _ _ _ (S.get (i := 1) rfl).choose_spec (S.get (i := 10) rfl).choose_spec (S.get (i := 11) rfl).choose_spec) ?_
  clear HB2
  rintro r wz ⟨v4, rfl, T⟩
  have hr2 : resC (stillC c) lp s l = (if e = 0 then s else ⟨0, 0, 0, 0⟩, []) := by
    unfold resC
    rw [still_run, show wrongE (stillC c).lps.length lp l = e from He.out]
    split <;> rfl
  rw [hr2] at T ⊢
  rw [show wrongE (stillC c).lps.length lp l = e from He.out]
  obtain ⟨ao, co, rfl⟩ : ∃ a c, _ = Value.slice a 0 c := (T.get (i := 0) rfl).elim fun F h => h.1.form
  replace S := (S.join T rfl).pick [6, 8, 9, 10, 11, 12, 13, 14, 15, 16] rfl
  repeat (first | simp only at S | simp only [pick] at S | simp only [nth] at S | simp only [List.set_cons_succ] at S | simp only [List.set_cons_zero] at S | simp only [List.setIfInBounds_toArray] at S | simp only [setAll] at S | simp only [List.cons_append] at S | simp only [List.nil_append] at S)
  clear T hr2
  obtain ⟨st2, Hst2⟩ : ∃ st, Hid ((if e = 0 then s else ⟨0, 0, 0, 0⟩ : State) = st) := ⟨_, rfl⟩
  simp only []
  rw [Hst2.out]
  have k1 : (e != e) = false := by simp
  have HT : Hid (e = 0 → st2 = s) := fun h => by rw [← Hst2.out, if_pos h]
  have Hne : Hid (e = 0 → (!ceqs [.int .i64 st2.n0, .int .i64 st2.n1, .int .i64 st2.n2, .int .i64 st2.n3] [.int .i64 s.n0, .int .i64 s.n1, .int .i64 s.n2, .int .i64 s.n3]) = false) := fun h => by
    rw [HT.out h]; simp [ceqs, ceq]
  by_cases he0 : e = 0
  · have HNE := Lib.hid (Hne.out he0)
    have k2 : (e == 0) = true := by rw [he0]; rfl
    clear he0
    go_wp2_with first
      | go_skip
      | ((with_reducible refine wpList_skip ?hw ?_); (case hw => with_unfolding_all rfl); simp only [Act.put, List.setIfInBounds_toArray, List.set_cons_succ, List.set_cons_zero])
      | ((with_reducible refine tot_done ?ht ?_); (case ht => kernel_rfl))
      | ((with_reducible apply wps_alloca (E := 28) S); (case hz => exact Tryd.zeroValue28); clear S; intro b13 wz S)
      | ((with_reducible apply wps_storea (T := 28) S 0 (vs := [.int .i64 st2.n0, .int .i64 st2.n1, .int .i64 st2.n2, .int .i64 st2.n3]) (m := 4)); (case hx => rfl); (case hy => rfl); (case hi => rfl); (case hT => decide +kernel); (case hm => rfl); (case h1 => rfl); (case hn => exact Nat.le_of_ble_eq_true rfl); clear S; intro wz S; simp only [List.set_cons_zero, List.set_cons_succ, setAll, List.setIfInBounds_toArray] at S)
      | ((with_reducible apply wps_loada (T := 28) (k := 4) S 0); (case hx => rfl); (case hi => rfl); (case hT => decide +kernel); (case hk => exact Nat.le_of_ble_eq_true rfl))
      | ((with_reducible apply wps_loada (T := 28) (k := 4) S 2); (case hx => rfl); (case hi => rfl); (case hT => decide +kernel); (case hk => exact Nat.le_of_ble_eq_true rfl))
      | ((with_reducible apply wpList_neq_agg (t := 28) (ks := [.int .i64, .int .i64, .int .i64, .int .i64]) (b := false)); (case hx => rfl); (case hy => rfl); (case hl => kernel_rfl); (case ha => kernel_rfl); (case hg => kernel_rfl); (case hfx => rfl); (case hfy => rfl); (case hb => exact HNE.out))
      | ((with_reducible apply wps_loada (T := 26) (k := 6) S 3); (case hx => rfl); (case hi => rfl); (case hT => decide +kernel); (case hk => exact Nat.le_of_ble_eq_true rfl))
      | ((with_reducible apply wps_alloca (E := 26) S); (case hz => exact Tryd.zeroValue26); clear S; intro b16 wz S)
      | ((with_reducible apply wps_storea (T := 26) S 0 (vs := [.slice aP c.programs.length cP, .slice aL c.lps.length cL, .slice aS c.starts.length cS, .int .i64 c.fin, .int .i64 c.fuel, .int .i64 c.fan]) (m := 6)); (case hx => rfl); (case hy => rfl); (case hi => rfl); (case hT => decide +kernel); (case hm => rfl); (case h1 => rfl); (case hn => exact Nat.le_of_ble_eq_true rfl); clear S; intro wz S; simp only [List.set_cons_zero, List.set_cons_succ, setAll, List.setIfInBounds_toArray] at S)
      | ((with_reducible apply wps_store (u := (.slice none 0 0)) S 0); (case hx => rfl); (case hy => rfl); (case hi => rfl); (case hT => decide +kernel); (case h1 => rfl); (case hn => exact Nat.le_of_ble_eq_true rfl); clear S; intro wz S; simp only [List.set_cons_succ, List.set_cons_zero, List.setIfInBounds_toArray] at S)
      | ((with_reducible apply wps_load S 3); (case hx => rfl); (case hi => rfl); (case hT => decide +kernel); (case hu => rfl))
      | ((with_reducible apply wps_loada_el S 6 (hj := Hx0.out) (q := 0) (vs := [.int .i64 x0.key.at_, .int .i64 x0.key.src, .int .i64 x0.key.sent, .int .i64 x0.key.no]) (m := 4)); (case hx => rfl); (case hT => decide +kernel); (case hi => rfl); (case hn => omega); (case hm => rfl); (case hv => rfl))
      | ((with_reducible apply wps_load_el S 6 (hj := Hx0.out) (q := 0) (u := .int .i64 x0.key.at_)); (case hx => rfl); (case hi => rfl); (case hn => omega); (case hT => decide +kernel); (case hu => rfl))
      | ((with_reducible apply wps_store (u := (.int .i64 x0.key.at_)) S 0); (case hx => rfl); (case hy => rfl); (case hi => rfl); (case hT => decide +kernel); (case h1 => rfl); (case hn => exact Nat.le_of_ble_eq_true rfl); clear S; intro wz S; simp only [List.set_cons_succ, List.set_cons_zero, List.setIfInBounds_toArray] at S)
      | ((with_reducible apply wps_loada (T := 26) (k := 6) S 0); (case hx => rfl); (case hi => rfl); (case hT => decide +kernel); (case hk => exact Nat.le_of_ble_eq_true rfl))
    replace S := S.nil 96 Start.cells 4
    have hcfg : ∃ F, (CfgA true [.slice aP c.programs.length cP, .slice aL c.lps.length cL, .slice none 0 0, .int .i64 x0.key.at_, .int .i64 c.fuel, .int .i64 c.fan] hs (lateC c x0.key.at_)).at_ wz F :=
      ⟨_, cfg_any (c := lateC c x0.key.at_) (S.get (i := 10) rfl).choose_spec (S.get (i := 11) rfl).choose_spec (own_sl (sh := true) stcells (S.get (i := 0) rfl).choose_spec) (S.get (i := 9) rfl).choose_spec⟩
    have HMd3 := Lib.hid fun w F F2 h ht => made_calls [.slice aP c.programs.length cP, .slice aL c.lps.length cL, .slice none 0 0, .int .i64 x0.key.at_, .int .i64 c.fuel, .int .i64 c.fan] hs (lateC c x0.key.at_) w F F2 h (late_wide HFw.out).1 (late_wide HFw.out).2 ht
    refine Calls.mono (HMd3.out _ _ _ hcfg.choose_spec (S.get (i := 8) rfl).choose_spec) ?_
    clear HMd3 hcfg
    rintro r wz ⟨pv, vs6, hs6, rfl, (⟨hm, rfl, T⟩ | ⟨hm, R3, vs7, hs7, rfl, T⟩)⟩
    · have hz : x0.key.at_ = 0 := by
        by_cases g : 1 ≤ x0.key.at_
        · rw [late_ok Hm.out g Hat0.out.2] at hm; cases hm
        · have := Hat0.out.1; omega
      have kz : (x0.key.at_ == 0) = true := by rw [hz]; rfl
      clear hz hm
      replace S := (S.join T rfl).cfgShare 0 rfl
      repeat (first | simp only at S | simp only [pick] at S | simp only [nth] at S | simp only [List.set_cons_succ] at S | simp only [List.set_cons_zero] at S | simp only [List.setIfInBounds_toArray] at S | simp only [setAll] at S | simp only [List.cons_append] at S | simp only [List.nil_append] at S)
      clear T
      obtain ⟨aP4, cP4, aL4, cL4, aS4, cS4, rfl, _, _⟩ := S.cfg 0 rfl
      go_wp2_with first
        | go_skip
        | ((with_reducible refine wpList_skip ?hw ?_); (case hw => with_unfolding_all rfl); simp only [Act.put, List.setIfInBounds_toArray, List.set_cons_succ, List.set_cons_zero])
        | ((with_reducible refine tot_done ?ht ?_); (case ht => kernel_rfl))
        | ((with_reducible apply wps_alloca (E := 37) S); (case hz => exact Tryd.zeroValue37); clear S; intro b18 wz S)
        | ((with_reducible apply wps_storea (T := 37) S 0 (vs := [.slice aP4 (lateC c x0.key.at_).programs.length cP4, .slice aL4 (lateC c x0.key.at_).lps.length cL4, .slice aS4 (lateC c x0.key.at_).starts.length cS4, .int .i64 (lateC c x0.key.at_).fin, .int .i64 (lateC c x0.key.at_).fuel, .int .i64 (lateC c x0.key.at_).fan]) (m := 6)); (case hx => rfl); (case hy => rfl); (case hi => rfl); (case hT => decide +kernel); (case hm => rfl); (case h1 => rfl); (case hn => exact Nat.le_of_ble_eq_true rfl); clear S; intro wz S; simp only [List.set_cons_zero, List.set_cons_succ, setAll, List.setIfInBounds_toArray] at S)
        | ((with_reducible apply wps_load S 6); (case hx => rfl); (case hi => rfl); (case hT => decide +kernel); (case hu => rfl))
        | ((with_reducible apply wps_loada_el S 9 (hj := Hx0.out) (q := 0) (vs := [.int .i64 x0.key.at_, .int .i64 x0.key.src, .int .i64 x0.key.sent, .int .i64 x0.key.no]) (m := 4)); (case hx => rfl); (case hT => decide +kernel); (case hi => rfl); (case hn => omega); (case hm => rfl); (case hv => rfl))
        | ((with_reducible apply wps_load_el S 9 (hj := Hx0.out) (q := 0) (u := .int .i64 x0.key.at_)); (case hx => rfl); (case hi => rfl); (case hn => omega); (case hT => decide +kernel); (case hu => rfl))
        | (go_at_call 11; refine Calls.mono (awake8_calls _ _ (S.get (i := 10) rfl).choose_spec) ?_; rintro e wz ⟨rfl, hE⟩; replace S := S.ext (Keep.of_below hE); clear hE)
      go_ret
      exact ⟨by simp, S.below⟩
    · have hz : ¬ x0.key.at_ = 0 := fun g => by rw [g, late_no] at hm; cases hm
      have HC3 : Hid (cfgE (lateC c x0.key.at_) = 0) := by unfold madeB at hm; rw [Bool.and_eq_true, decide_eq_true_eq] at hm; exact hm.2
      clear hm hz
      replace S := ((S.join T rfl).modShare 0 rfl).cfgShare 1 rfl
      repeat (first | simp only at S | simp only [pick] at S | simp only [nth] at S | simp only [List.set_cons_succ] at S | simp only [List.set_cons_zero] at S | simp only [List.setIfInBounds_toArray] at S | simp only [setAll] at S | simp only [List.cons_append] at S | simp only [List.nil_append] at S)
      clear T
      obtain ⟨aP4, cP4, aL4, cL4, aS4, cS4, rfl, _, _⟩ := S.cfg 1 rfl
      have HB3 := Lib.hid fun w F F2 F3 h h2 ht => (brun_calls R3 vs7 hs7 (lateC c x0.key.at_) lp s (.slice (some ⟨R0, o0, none⟩) l.length cp) l w F F2 F3 h h2 ht (by have := Htn.out; omega) HC3.out (fun _ => by rw [Ha0.out]; exact Hat0.out)).mono (fun _ _ h => brunU h)
      go_wp2_with first
        | go_skip
        | ((with_reducible refine wpList_skip ?hw ?_); (case hw => with_unfolding_all rfl); simp only [Act.put, List.setIfInBounds_toArray, List.set_cons_succ, List.set_cons_zero])
        | ((with_reducible refine tot_done ?ht ?_); (case ht => kernel_rfl))
        | ((with_reducible apply wps_alloca (E := 37) S); (case hz => exact Tryd.zeroValue37); clear S; intro b18 wz S)
        | ((with_reducible apply wps_storea (T := 37) S 0 (vs := [.slice aP4 (lateC c x0.key.at_).programs.length cP4, .slice aL4 (lateC c x0.key.at_).lps.length cL4, .slice aS4 (lateC c x0.key.at_).starts.length cS4, .int .i64 (lateC c x0.key.at_).fin, .int .i64 (lateC c x0.key.at_).fuel, .int .i64 (lateC c x0.key.at_).fan]) (m := 6)); (case hx => rfl); (case hy => rfl); (case hi => rfl); (case hT => decide +kernel); (case hm => rfl); (case h1 => rfl); (case hn => exact Nat.le_of_ble_eq_true rfl); clear S; intro wz S; simp only [List.set_cons_zero, List.set_cons_succ, setAll, List.setIfInBounds_toArray] at S)
        | ((with_reducible apply wps_load S 7); (case hx => rfl); (case hi => rfl); (case hT => decide +kernel); (case hu => rfl))
        | ((with_reducible apply wps_loada (T := 28) (k := 4) S 7); (case hx => rfl); (case hi => rfl); (case hT => decide +kernel); (case hk => exact Nat.le_of_ble_eq_true rfl))
      refine Calls.mono (HB3.out _ _ _ _ (S.get (i := 1) rfl).choose_spec (S.get (i := 10) rfl).choose_spec (S.get (i := 11) rfl).choose_spec) ?_
      clear HB3
      rintro r wz ⟨v7, rfl, T⟩
      have hr3 : resC (lateC c x0.key.at_) lp s l = (st1, []) := by
        have h1 := late_run c lp s l
        rw [Ha0.out] at h1
        rw [← Hst1.out]
        unfold resC
        rw [show (lateC c x0.key.at_).lps.length = c.lps.length from rfl]
        split
        · exact Prod.ext h1.1 h1.2
        · rfl
      rw [hr3] at T ⊢
      rw [show wrongE (lateC c x0.key.at_).lps.length lp l = e from He.out]
      obtain ⟨ao2, co2, rfl⟩ : ∃ a c, _ = Value.slice a 0 c := (T.get (i := 0) rfl).elim fun F h => h.1.form
      replace S := S.join T rfl
      repeat (first | simp only at S | simp only [pick] at S | simp only [nth] at S | simp only [List.set_cons_succ] at S | simp only [List.set_cons_zero] at S | simp only [List.setIfInBounds_toArray] at S | simp only [setAll] at S | simp only [List.cons_append] at S | simp only [List.nil_append] at S)
      clear T hr3
      simp only []
      have k5 : (e == e) = true := by simp
      go_wp2_with first
        | go_skip
        | ((with_reducible refine wpList_skip ?hw ?_); (case hw => with_unfolding_all rfl); simp only [Act.put, List.setIfInBounds_toArray, List.set_cons_succ, List.set_cons_zero])
        | ((with_reducible refine tot_done ?ht ?_); (case ht => kernel_rfl))
        | ((with_reducible apply wps_alloca (E := 28) S); (case hz => exact Tryd.zeroValue28); clear S; intro b19 wz S)
        | ((with_reducible apply wps_storea (T := 28) S 0 (vs := [.int .i64 st1.n0, .int .i64 st1.n1, .int .i64 st1.n2, .int .i64 st1.n3]) (m := 4)); (case hx => rfl); (case hy => rfl); (case hi => rfl); (case hT => decide +kernel); (case hm => rfl); (case h1 => rfl); (case hn => exact Nat.le_of_ble_eq_true rfl); clear S; intro wz S; simp only [List.set_cons_zero, List.set_cons_succ, setAll, List.setIfInBounds_toArray] at S)
        | ((with_reducible apply wps_loada (T := 28) (k := 4) S 0); (case hx => rfl); (case hi => rfl); (case hT => decide +kernel); (case hk => exact Nat.le_of_ble_eq_true rfl))
        | ((with_reducible apply wps_loada (T := 28) (k := 4) S 8); (case hx => rfl); (case hi => rfl); (case hT => decide +kernel); (case hk => exact Nat.le_of_ble_eq_true rfl))
        | ((with_reducible apply wpList_eql_agg (t := 28) (ks := [.int .i64, .int .i64, .int .i64, .int .i64]) (b := true)); (case hx => rfl); (case hy => rfl); (case hl => kernel_rfl); (case ha => kernel_rfl); (case hg => kernel_rfl); (case hfx => rfl); (case hfy => rfl); (case hb => exact (by simp [ceqs, ceq])))
        | (go_at_call 11; refine Calls.mono (awake8_calls _ _ (S.get (i := 13) rfl).choose_spec) ?_; rintro e wz ⟨rfl, hE⟩; replace S := S.ext (Keep.of_below hE); clear hE)
      go_ret
      exact ⟨by simp, S.below⟩
  · have HNE := Lib.hid trivial
    have k2 : (e == 0) = false := by simpa using he0
    clear he0
    go_wp2_with first
      | go_skip
      | ((with_reducible refine wpList_skip ?hw ?_); (case hw => with_unfolding_all rfl); simp only [Act.put, List.setIfInBounds_toArray, List.set_cons_succ, List.set_cons_zero])
      | ((with_reducible refine tot_done ?ht ?_); (case ht => kernel_rfl))
      | ((with_reducible apply wps_alloca (E := 28) S); (case hz => exact Tryd.zeroValue28); clear S; intro b13 wz S)
      | ((with_reducible apply wps_storea (T := 28) S 0 (vs := [.int .i64 st2.n0, .int .i64 st2.n1, .int .i64 st2.n2, .int .i64 st2.n3]) (m := 4)); (case hx => rfl); (case hy => rfl); (case hi => rfl); (case hT => decide +kernel); (case hm => rfl); (case h1 => rfl); (case hn => exact Nat.le_of_ble_eq_true rfl); clear S; intro wz S; simp only [List.set_cons_zero, List.set_cons_succ, setAll, List.setIfInBounds_toArray] at S)
      | ((with_reducible apply wps_loada (T := 28) (k := 4) S 0); (case hx => rfl); (case hi => rfl); (case hT => decide +kernel); (case hk => exact Nat.le_of_ble_eq_true rfl))
      | ((with_reducible apply wps_loada (T := 28) (k := 4) S 2); (case hx => rfl); (case hi => rfl); (case hT => decide +kernel); (case hk => exact Nat.le_of_ble_eq_true rfl))
      | ((with_reducible apply wps_loada (T := 26) (k := 6) S 3); (case hx => rfl); (case hi => rfl); (case hT => decide +kernel); (case hk => exact Nat.le_of_ble_eq_true rfl))
      | ((with_reducible apply wps_alloca (E := 26) S); (case hz => exact Tryd.zeroValue26); clear S; intro b16 wz S)
      | ((with_reducible apply wps_storea (T := 26) S 0 (vs := [.slice aP c.programs.length cP, .slice aL c.lps.length cL, .slice aS c.starts.length cS, .int .i64 c.fin, .int .i64 c.fuel, .int .i64 c.fan]) (m := 6)); (case hx => rfl); (case hy => rfl); (case hi => rfl); (case hT => decide +kernel); (case hm => rfl); (case h1 => rfl); (case hn => exact Nat.le_of_ble_eq_true rfl); clear S; intro wz S; simp only [List.set_cons_zero, List.set_cons_succ, setAll, List.setIfInBounds_toArray] at S)
      | ((with_reducible apply wps_store (u := (.slice none 0 0)) S 0); (case hx => rfl); (case hy => rfl); (case hi => rfl); (case hT => decide +kernel); (case h1 => rfl); (case hn => exact Nat.le_of_ble_eq_true rfl); clear S; intro wz S; simp only [List.set_cons_succ, List.set_cons_zero, List.setIfInBounds_toArray] at S)
      | ((with_reducible apply wps_load S 3); (case hx => rfl); (case hi => rfl); (case hT => decide +kernel); (case hu => rfl))
      | ((with_reducible apply wps_loada_el S 6 (hj := Hx0.out) (q := 0) (vs := [.int .i64 x0.key.at_, .int .i64 x0.key.src, .int .i64 x0.key.sent, .int .i64 x0.key.no]) (m := 4)); (case hx => rfl); (case hT => decide +kernel); (case hi => rfl); (case hn => omega); (case hm => rfl); (case hv => rfl))
      | ((with_reducible apply wps_load_el S 6 (hj := Hx0.out) (q := 0) (u := .int .i64 x0.key.at_)); (case hx => rfl); (case hi => rfl); (case hn => omega); (case hT => decide +kernel); (case hu => rfl))
      | ((with_reducible apply wps_store (u := (.int .i64 x0.key.at_)) S 0); (case hx => rfl); (case hy => rfl); (case hi => rfl); (case hT => decide +kernel); (case h1 => rfl); (case hn => exact Nat.le_of_ble_eq_true rfl); clear S; intro wz S; simp only [List.set_cons_succ, List.set_cons_zero, List.setIfInBounds_toArray] at S)
      | ((with_reducible apply wps_loada (T := 26) (k := 6) S 0); (case hx => rfl); (case hi => rfl); (case hT => decide +kernel); (case hk => exact Nat.le_of_ble_eq_true rfl))
    replace S := S.nil 96 Start.cells 4
    have hcfg : ∃ F, (CfgA true [.slice aP c.programs.length cP, .slice aL c.lps.length cL, .slice none 0 0, .int .i64 x0.key.at_, .int .i64 c.fuel, .int .i64 c.fan] hs (lateC c x0.key.at_)).at_ wz F :=
      ⟨_, cfg_any (c := lateC c x0.key.at_) (S.get (i := 10) rfl).choose_spec (S.get (i := 11) rfl).choose_spec (own_sl (sh := true) stcells (S.get (i := 0) rfl).choose_spec) (S.get (i := 9) rfl).choose_spec⟩
    have HMd3 := Lib.hid fun w F F2 h ht => made_calls [.slice aP c.programs.length cP, .slice aL c.lps.length cL, .slice none 0 0, .int .i64 x0.key.at_, .int .i64 c.fuel, .int .i64 c.fan] hs (lateC c x0.key.at_) w F F2 h (late_wide HFw.out).1 (late_wide HFw.out).2 ht
    refine Calls.mono (HMd3.out _ _ _ hcfg.choose_spec (S.get (i := 8) rfl).choose_spec) ?_
    clear HMd3 hcfg
    rintro r wz ⟨pv, vs6, hs6, rfl, (⟨hm, rfl, T⟩ | ⟨hm, R3, vs7, hs7, rfl, T⟩)⟩
    · have hz : x0.key.at_ = 0 := by
        by_cases g : 1 ≤ x0.key.at_
        · rw [late_ok Hm.out g Hat0.out.2] at hm; cases hm
        · have := Hat0.out.1; omega
      have kz : (x0.key.at_ == 0) = true := by rw [hz]; rfl
      clear hz hm
      replace S := (S.join T rfl).cfgShare 0 rfl
      repeat (first | simp only at S | simp only [pick] at S | simp only [nth] at S | simp only [List.set_cons_succ] at S | simp only [List.set_cons_zero] at S | simp only [List.setIfInBounds_toArray] at S | simp only [setAll] at S | simp only [List.cons_append] at S | simp only [List.nil_append] at S)
      clear T
      obtain ⟨aP4, cP4, aL4, cL4, aS4, cS4, rfl, _, _⟩ := S.cfg 0 rfl
      go_wp2_with first
        | go_skip
        | ((with_reducible refine wpList_skip ?hw ?_); (case hw => with_unfolding_all rfl); simp only [Act.put, List.setIfInBounds_toArray, List.set_cons_succ, List.set_cons_zero])
        | ((with_reducible refine tot_done ?ht ?_); (case ht => kernel_rfl))
        | ((with_reducible apply wps_alloca (E := 37) S); (case hz => exact Tryd.zeroValue37); clear S; intro b18 wz S)
        | ((with_reducible apply wps_storea (T := 37) S 0 (vs := [.slice aP4 (lateC c x0.key.at_).programs.length cP4, .slice aL4 (lateC c x0.key.at_).lps.length cL4, .slice aS4 (lateC c x0.key.at_).starts.length cS4, .int .i64 (lateC c x0.key.at_).fin, .int .i64 (lateC c x0.key.at_).fuel, .int .i64 (lateC c x0.key.at_).fan]) (m := 6)); (case hx => rfl); (case hy => rfl); (case hi => rfl); (case hT => decide +kernel); (case hm => rfl); (case h1 => rfl); (case hn => exact Nat.le_of_ble_eq_true rfl); clear S; intro wz S; simp only [List.set_cons_zero, List.set_cons_succ, setAll, List.setIfInBounds_toArray] at S)
        | ((with_reducible apply wps_load S 6); (case hx => rfl); (case hi => rfl); (case hT => decide +kernel); (case hu => rfl))
        | ((with_reducible apply wps_loada_el S 9 (hj := Hx0.out) (q := 0) (vs := [.int .i64 x0.key.at_, .int .i64 x0.key.src, .int .i64 x0.key.sent, .int .i64 x0.key.no]) (m := 4)); (case hx => rfl); (case hT => decide +kernel); (case hi => rfl); (case hn => omega); (case hm => rfl); (case hv => rfl))
        | ((with_reducible apply wps_load_el S 9 (hj := Hx0.out) (q := 0) (u := .int .i64 x0.key.at_)); (case hx => rfl); (case hi => rfl); (case hn => omega); (case hT => decide +kernel); (case hu => rfl))
        | (go_at_call 11; refine Calls.mono (awake8_calls _ _ (S.get (i := 10) rfl).choose_spec) ?_; rintro e wz ⟨rfl, hE⟩; replace S := S.ext (Keep.of_below hE); clear hE)
      go_ret
      exact ⟨by simp, S.below⟩
    · have hz : ¬ x0.key.at_ = 0 := fun g => by rw [g, late_no] at hm; cases hm
      have HC3 : Hid (cfgE (lateC c x0.key.at_) = 0) := by unfold madeB at hm; rw [Bool.and_eq_true, decide_eq_true_eq] at hm; exact hm.2
      clear hm hz
      replace S := ((S.join T rfl).modShare 0 rfl).cfgShare 1 rfl
      repeat (first | simp only at S | simp only [pick] at S | simp only [nth] at S | simp only [List.set_cons_succ] at S | simp only [List.set_cons_zero] at S | simp only [List.setIfInBounds_toArray] at S | simp only [setAll] at S | simp only [List.cons_append] at S | simp only [List.nil_append] at S)
      clear T
      obtain ⟨aP4, cP4, aL4, cL4, aS4, cS4, rfl, _, _⟩ := S.cfg 1 rfl
      have HB3 := Lib.hid fun w F F2 F3 h h2 ht => (brun_calls R3 vs7 hs7 (lateC c x0.key.at_) lp s (.slice (some ⟨R0, o0, none⟩) l.length cp) l w F F2 F3 h h2 ht (by have := Htn.out; omega) HC3.out (fun _ => by rw [Ha0.out]; exact Hat0.out)).mono (fun _ _ h => brunU h)
      go_wp2_with first
        | go_skip
        | ((with_reducible refine wpList_skip ?hw ?_); (case hw => with_unfolding_all rfl); simp only [Act.put, List.setIfInBounds_toArray, List.set_cons_succ, List.set_cons_zero])
        | ((with_reducible refine tot_done ?ht ?_); (case ht => kernel_rfl))
        | ((with_reducible apply wps_alloca (E := 37) S); (case hz => exact Tryd.zeroValue37); clear S; intro b18 wz S)
        | ((with_reducible apply wps_storea (T := 37) S 0 (vs := [.slice aP4 (lateC c x0.key.at_).programs.length cP4, .slice aL4 (lateC c x0.key.at_).lps.length cL4, .slice aS4 (lateC c x0.key.at_).starts.length cS4, .int .i64 (lateC c x0.key.at_).fin, .int .i64 (lateC c x0.key.at_).fuel, .int .i64 (lateC c x0.key.at_).fan]) (m := 6)); (case hx => rfl); (case hy => rfl); (case hi => rfl); (case hT => decide +kernel); (case hm => rfl); (case h1 => rfl); (case hn => exact Nat.le_of_ble_eq_true rfl); clear S; intro wz S; simp only [List.set_cons_zero, List.set_cons_succ, setAll, List.setIfInBounds_toArray] at S)
        | ((with_reducible apply wps_load S 7); (case hx => rfl); (case hi => rfl); (case hT => decide +kernel); (case hu => rfl))
        | ((with_reducible apply wps_loada (T := 28) (k := 4) S 7); (case hx => rfl); (case hi => rfl); (case hT => decide +kernel); (case hk => exact Nat.le_of_ble_eq_true rfl))
      refine Calls.mono (HB3.out _ _ _ _ (S.get (i := 1) rfl).choose_spec (S.get (i := 10) rfl).choose_spec (S.get (i := 11) rfl).choose_spec) ?_
      clear HB3
      rintro r wz ⟨v7, rfl, T⟩
      have hr3 : resC (lateC c x0.key.at_) lp s l = (st1, []) := by
        have h1 := late_run c lp s l
        rw [Ha0.out] at h1
        rw [← Hst1.out]
        unfold resC
        rw [show (lateC c x0.key.at_).lps.length = c.lps.length from rfl]
        split
        · exact Prod.ext h1.1 h1.2
        · rfl
      rw [hr3] at T ⊢
      rw [show wrongE (lateC c x0.key.at_).lps.length lp l = e from He.out]
      obtain ⟨ao2, co2, rfl⟩ : ∃ a c, _ = Value.slice a 0 c := (T.get (i := 0) rfl).elim fun F h => h.1.form
      replace S := S.join T rfl
      repeat (first | simp only at S | simp only [pick] at S | simp only [nth] at S | simp only [List.set_cons_succ] at S | simp only [List.set_cons_zero] at S | simp only [List.setIfInBounds_toArray] at S | simp only [setAll] at S | simp only [List.cons_append] at S | simp only [List.nil_append] at S)
      clear T hr3
      simp only []
      have k5 : (e == e) = true := by simp
      go_wp2_with first
        | go_skip
        | ((with_reducible refine wpList_skip ?hw ?_); (case hw => with_unfolding_all rfl); simp only [Act.put, List.setIfInBounds_toArray, List.set_cons_succ, List.set_cons_zero])
        | ((with_reducible refine tot_done ?ht ?_); (case ht => kernel_rfl))
        | ((with_reducible apply wps_alloca (E := 28) S); (case hz => exact Tryd.zeroValue28); clear S; intro b19 wz S)
        | ((with_reducible apply wps_storea (T := 28) S 0 (vs := [.int .i64 st1.n0, .int .i64 st1.n1, .int .i64 st1.n2, .int .i64 st1.n3]) (m := 4)); (case hx => rfl); (case hy => rfl); (case hi => rfl); (case hT => decide +kernel); (case hm => rfl); (case h1 => rfl); (case hn => exact Nat.le_of_ble_eq_true rfl); clear S; intro wz S; simp only [List.set_cons_zero, List.set_cons_succ, setAll, List.setIfInBounds_toArray] at S)
        | ((with_reducible apply wps_loada (T := 28) (k := 4) S 0); (case hx => rfl); (case hi => rfl); (case hT => decide +kernel); (case hk => exact Nat.le_of_ble_eq_true rfl))
        | ((with_reducible apply wps_loada (T := 28) (k := 4) S 8); (case hx => rfl); (case hi => rfl); (case hT => decide +kernel); (case hk => exact Nat.le_of_ble_eq_true rfl))
        | ((with_reducible apply wpList_eql_agg (t := 28) (ks := [.int .i64, .int .i64, .int .i64, .int .i64]) (b := true)); (case hx => rfl); (case hy => rfl); (case hl => kernel_rfl); (case ha => kernel_rfl); (case hg => kernel_rfl); (case hfx => rfl); (case hfy => rfl); (case hb => exact (by simp [ceqs, ceq])))
        | (go_at_call 11; refine Calls.mono (awake8_calls _ _ (S.get (i := 13) rfl).choose_spec) ?_; rintro e wz ⟨rfl, hE⟩; replace S := S.ext (Keep.of_below hE); clear hE)
      go_ret
      exact ⟨by simp, S.below⟩
end Go.Proofs.YtfiiaechippboaaDoor

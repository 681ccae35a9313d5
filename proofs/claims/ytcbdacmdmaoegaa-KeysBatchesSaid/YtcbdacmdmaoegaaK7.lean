import Derived.Test.YtcbdacmdmaoegaaK6
/- The walk of the law's awake. -/
namespace Go.Proofs.Ytcbdacmdmaoegaa
open Go Go.RowKit Reg Mem

def badB (l : List Message) : Bool := (List.range l.length).any fun i => (List.range l.length).any fun k => i != k && (match l[i]?, l[k]? with | some a, some b => sameId a.ev b.ev && !meets a b | _, _ => false)
theorem badB_iff {l : List Message} : badB l = true ↔ Bad l := by
  simp only [badB, List.any_eq_true, List.mem_range, Bool.and_eq_true, bne_iff_ne]
  constructor
  · rintro ⟨i, hi, k, hk, hik, h⟩
    rw [List.getElem?_eq_getElem hi, List.getElem?_eq_getElem hk] at h
    simp only [Bool.and_eq_true, Bool.not_eq_true'] at h
    exact ⟨i, k, _, _, hik, List.getElem?_eq_getElem hi, List.getElem?_eq_getElem hk, h.1, h.2⟩
  · rintro ⟨i, k, a, b, hik, ha, hb, h1, h2⟩
    exact ⟨i, (List.getElem?_eq_some_iff.1 ha).1, k, (List.getElem?_eq_some_iff.1 hb).1, hik, by simp [ha, hb, h1, h2]⟩
def wk1 : Message := ⟨⟨⟨5, 0, 1, 0⟩, 1, 0, 0⟩, false⟩
def wk2 : Message := ⟨⟨⟨5, 0, 1, 1⟩, 1, 0, 0⟩, false⟩
def wk3 : Message := ⟨⟨⟨5, 0, 1, 0⟩, 1, 0, 0⟩, true⟩
theorem wk_left : left [wk1, wk2, wk3] = [wk2] := by decide
theorem wk_not : ¬ Bad [wk1, wk2, wk3] := by rw [← badB_iff]; decide
set_option maxRecDepth 100000 in
set_option maxHeartbeats 4000000 in
theorem awake_calls (w : World) : Calls Try.prog 10 #[] w fun r w' => r = .returned (.bool true) ∧ Below w.heap.size w w' := by
  have S := St.init (fun _ => False) w
  have HC : Hid (∀ w, Calls Try.prog 32 #[.agg #[.int .i64 5, .int .i64 0, .int .i64 1, .int .i64 0], .agg #[.int .i64 5, .int .i64 0, .int .i64 1, .int .i64 1]] w fun r w' => r = .returned (.int .i64 (-1)) ∧ Below w.heap.size w w') := fun w => compare_calls 5 0 1 0 5 0 1 1 w
  have HO : Hid (∀ w, Calls Try.prog 34 #[.agg #[.int .i64 5, .int .i64 0, .int .i64 1, .int .i64 1, .int .i64 1, .int .i64 0, .int .i64 0]] w fun r w' => r = .returned (.agg #[.int .i64 0, .int .i64 1, .int .i64 1]) ∧ Below w.heap.size w w') := fun w => of_calls wk2.ev w
  go_enter Try.func10, Try.ntmps10
  go_wp2_with first
    | go_skip
    | ((with_reducible refine wpList_skip ?hw ?_); (case hw => with_unfolding_all rfl); simp only [Act.put, List.setIfInBounds_toArray, List.set_cons_succ, List.set_cons_zero])
    | ((with_reducible apply wps_storea (T := 30) S 0 (vs := [.int .i64 5, .int .i64 0, .int .i64 1, .int .i64 0, .int .i64 1, .int .i64 0, .int .i64 0]) (m := 7)); (case hx => rfl); (case hy => rfl); (case hi => rfl); (case hT => decide +kernel); (case hm => rfl); (case h1 => rfl); (case hn => exact Nat.le_of_ble_eq_true rfl); clear S; intro wz S; simp only [List.set_cons_zero, List.set_cons_succ, setAll, List.setIfInBounds_toArray] at S)
    | ((with_reducible apply wps_store (u := (.int .i64 1)) S 0); (case hx => rfl); (case hy => rfl); (case hi => rfl); (case hT => decide +kernel); (case h1 => rfl); (case hn => exact Nat.le_of_ble_eq_true rfl); clear S; intro wz S; simp only [List.set_cons_succ, List.set_cons_zero, List.setIfInBounds_toArray] at S)
    | ((with_reducible apply wps_buildSlice (T := 68) (E := 72) (cs := #[.int .i64 5, .int .i64 0, .int .i64 1, .int .i64 0, .int .i64 1, .int .i64 0, .int .i64 0, .bool false, .int .i64 5, .int .i64 0, .int .i64 1, .int .i64 1, .int .i64 1, .int .i64 0, .int .i64 0, .bool false, .int .i64 5, .int .i64 0, .int .i64 1, .int .i64 0, .int .i64 1, .int .i64 0, .int .i64 0, .bool true]) S); (case hr => intro w; kernel_rfl); clear S; intro bz wz S)
    | ((with_reducible refine tot_done ?ht ?_); (case ht => kernel_rfl))
    | ((with_reducible apply wps_alloca (E := 30) S); (case hz => exact Try.zeroValue30); clear S; intro bz wz S)
    | ((with_reducible apply wps_loada (T := 28) (k := 4) S 0); (case hx => rfl); (case hi => rfl); (case hT => decide +kernel); (case hk => exact Nat.le_of_ble_eq_true rfl))
    | ((with_reducible apply wps_loada (T := 30) (k := 7) S 0); (case hx => rfl); (case hi => rfl); (case hT => decide +kernel); (case hk => exact Nat.le_of_ble_eq_true rfl))
    | ((with_reducible apply wps_loada (T := 28) (k := 4) S 1); (case hx => rfl); (case hi => rfl); (case hT => decide +kernel); (case hk => exact Nat.le_of_ble_eq_true rfl))
    | ((with_reducible apply wps_loada (T := 30) (k := 7) S 1); (case hx => rfl); (case hi => rfl); (case hT => decide +kernel); (case hk => exact Nat.le_of_ble_eq_true rfl))
    | ((with_reducible apply wps_loada (T := 28) (k := 4) S 2); (case hx => rfl); (case hi => rfl); (case hT => decide +kernel); (case hk => exact Nat.le_of_ble_eq_true rfl))
    | ((with_reducible apply wps_loada (T := 30) (k := 7) S 2); (case hx => rfl); (case hi => rfl); (case hT => decide +kernel); (case hk => exact Nat.le_of_ble_eq_true rfl))
    | ((with_reducible apply wps_loada (T := 28) (k := 4) S 3); (case hx => rfl); (case hi => rfl); (case hT => decide +kernel); (case hk => exact Nat.le_of_ble_eq_true rfl))
    | ((with_reducible apply wps_loada (T := 30) (k := 7) S 3); (case hx => rfl); (case hi => rfl); (case hT => decide +kernel); (case hk => exact Nat.le_of_ble_eq_true rfl))
  refine Calls.mono (settle_calls _ [wk1, wk2, wk3] _ _ (blk_sl _ mcells (S.get (i := 0) rfl).choose_spec rfl rfl) (by decide)) ?_
  rintro e wz (⟨hb, _⟩ | ⟨_, ad, c, rfl, T⟩)
  · exact absurd hb wk_not
  replace S := S.join T rfl
  simp only [List.cons_append, List.nil_append, wk_left] at S
  replace S := S.freeze true 0 mcells rfl
  simp only [List.set_cons_zero] at S
  clear T
  go_wp2_with first
    | go_skip
    | ((with_reducible refine wpList_skip ?hw ?_); (case hw => with_unfolding_all rfl); simp only [Act.put, List.setIfInBounds_toArray, List.set_cons_succ, List.set_cons_zero])
    | (go_at_call 32; refine Calls.mono (HC.out _) ?_; rintro e wz ⟨rfl, hE⟩; replace S := S.ext (Keep.of_below hE); clear hE)
    | ((with_reducible apply wps_buildSlice (T := 68) (E := 72) (cs := #[.int .i64 5, .int .i64 0, .int .i64 1, .int .i64 1, .int .i64 1, .int .i64 0, .int .i64 0, .bool false]) S); (case hr => intro w; kernel_rfl); clear S; intro bz wz S)
    | (go_at_call 33; refine Calls.mono (msgseq_calls _ _ [wk2] [wk2] _ _ _ (S.get (i := 1) rfl).choose_spec (blk_sl [wk2] mcells (S.get (i := 0) rfl).choose_spec rfl rfl) (by decide) (by decide)) ?_; rintro e wz ⟨rfl, hE⟩; replace S := S.ext (Keep.of_below hE); clear hE)
    | (go_at_call 34; refine Calls.mono (HO.out _) ?_; rintro e wz ⟨rfl, hE⟩; replace S := S.ext (Keep.of_below hE); clear hE)
    | ((with_reducible apply wpList_eql_agg (t := 76) (ks := [.int .i64, .int .i64, .int .i64]) (b := true)); (case hx => rfl); (case hy => rfl); (case hl => kernel_rfl); (case ha => kernel_rfl); (case hg => kernel_rfl); (case hfx => rfl); (case hfy => rfl); (case hb => exact rfl))
    | ((with_reducible refine tot_done ?ht ?_); (case ht => kernel_rfl))
    | ((with_reducible apply wps_alloca (E := 30) S); (case hz => exact Try.zeroValue30); clear S; intro bz wz S)
    | ((with_reducible apply wps_loada (T := 28) (k := 4) S 0); (case hx => rfl); (case hi => rfl); (case hT => decide +kernel); (case hk => exact Nat.le_of_ble_eq_true rfl))
    | ((with_reducible apply wps_loada (T := 30) (k := 7) S 0); (case hx => rfl); (case hi => rfl); (case hT => decide +kernel); (case hk => exact Nat.le_of_ble_eq_true rfl))
    | ((with_reducible apply wps_loada (T := 28) (k := 4) S 1); (case hx => rfl); (case hi => rfl); (case hT => decide +kernel); (case hk => exact Nat.le_of_ble_eq_true rfl))
    | ((with_reducible apply wps_loada (T := 30) (k := 7) S 1); (case hx => rfl); (case hi => rfl); (case hT => decide +kernel); (case hk => exact Nat.le_of_ble_eq_true rfl))
    | ((with_reducible apply wps_loada (T := 28) (k := 4) S 2); (case hx => rfl); (case hi => rfl); (case hT => decide +kernel); (case hk => exact Nat.le_of_ble_eq_true rfl))
    | ((with_reducible apply wps_loada (T := 30) (k := 7) S 2); (case hx => rfl); (case hi => rfl); (case hT => decide +kernel); (case hk => exact Nat.le_of_ble_eq_true rfl))
    | ((with_reducible apply wps_loada (T := 28) (k := 4) S 3); (case hx => rfl); (case hi => rfl); (case hT => decide +kernel); (case hk => exact Nat.le_of_ble_eq_true rfl))
    | ((with_reducible apply wps_loada (T := 30) (k := 7) S 3); (case hx => rfl); (case hi => rfl); (case hT => decide +kernel); (case hk => exact Nat.le_of_ble_eq_true rfl))
  go_ret
  exact ⟨by simp, S.below⟩
end Go.Proofs.Ytcbdacmdmaoegaa

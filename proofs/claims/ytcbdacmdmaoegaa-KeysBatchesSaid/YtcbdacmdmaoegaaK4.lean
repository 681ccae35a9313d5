import Derived.Test.YtcbdacmdmaoegaaK3
/- The walk of keys.Settle. -/
namespace Go.Proofs.Ytcbdacmdmaoegaa
open Go Go.RowKit Reg Mem

def boolE (x : Bool) : List Value := [.bool x]
theorem boolE_len : ∀ x, (boolE x).length = 1 := fun _ => rfl
theorem boolE_one : ∀ x, ∀ u ∈ boolE x, u.oneCell' = true := fun x u hu => by simp [boolE] at hu; subst hu; rfl
set_option maxRecDepth 100000 in
theorem elem_Bo : Elem Try.prog 98 4 1 1 := ⟨_, .bool false, Try.underlying98, rfl, by kernel_rfl, by kernel_rfl, by kernel_rfl, by kernel_rfl, by omega⟩
set_option maxRecDepth 100000 in
theorem elem_Msg : Elem Try.prog 68 72 8 64 := ⟨_, .agg #[.int .i64 0, .int .i64 0, .int .i64 0, .int .i64 0, .int .i64 0, .int .i64 0, .int .i64 0, .bool false], Try.underlying68, rfl, by kernel_rfl, by kernel_rfl, by kernel_rfl, by kernel_rfl, by omega⟩
set_option maxRecDepth 100000 in
theorem zero_Bo : zeroIs Try.prog 4 1 (boolE false) := ⟨_, .bool false, rfl, by kernel_rfl, by kernel_rfl, rfl, by decide⟩
theorem event_ceqs (a b : Event) : ceqs a.cells b.cells = decide (a = b) := by
  obtain ⟨⟨a1, a2, a3, a4⟩, a5, a6, a7⟩ := a; obtain ⟨⟨b1, b2, b3, b4⟩, b5, b6, b7⟩ := b
  simp only [Event.cells, ceqs, ceq, Bool.and_true, Event.mk.injEq, Key.mk.injEq]
  rw [Bool.eq_iff_iff]; simp [and_assoc]
theorem id_ceqs (a b : Event) : ceqs [.int .i64 a.key.src, .int .i64 a.key.sent, .int .i64 a.key.no] [.int .i64 b.key.src, .int .i64 b.key.sent, .int .i64 b.key.no] = sameId a b := by
  simp only [ceqs, ceq, Bool.and_true, sameId, Bool.and_assoc]
set_option maxHeartbeats 4000000 in
theorem meets_calls (a b : Message) (w : World) : Calls Try.prog 52 #[.agg #[.int .i64 a.ev.key.at_, .int .i64 a.ev.key.src, .int .i64 a.ev.key.sent, .int .i64 a.ev.key.no, .int .i64 a.ev.dst, .int .i64 a.ev.kind, .int .i64 a.ev.data, .bool a.anti], .agg #[.int .i64 b.ev.key.at_, .int .i64 b.ev.key.src, .int .i64 b.ev.key.sent, .int .i64 b.ev.key.no, .int .i64 b.ev.dst, .int .i64 b.ev.kind, .int .i64 b.ev.data, .bool b.anti]] w fun r w' => r = .returned (.bool (meets a b)) ∧ Below w.heap.size w w' := by
  have S := St.init (fun _ => False) w
  obtain ⟨a, x⟩ := a
  obtain ⟨b, y⟩ := b
  have he := event_ceqs a b
  have He := Lib.hid he
  clear he
  cases x <;> cases y
  all_goals
    simp only [meets]
    go_enter Try.func52, Try.ntmps52
    go_wp2_with first
      | go_skip
      | ((with_reducible refine wpList_skip ?hw ?_); (case hw => with_unfolding_all rfl); simp only [Act.put, List.setIfInBounds_toArray, List.set_cons_succ, List.set_cons_zero])
      | ((with_reducible apply wpList_eql_agg (t := 30) (ks := [.int .i64, .int .i64, .int .i64, .int .i64, .int .i64, .int .i64, .int .i64]) (b := _)); (case hx => rfl); (case hy => rfl); (case hl => kernel_rfl); (case ha => kernel_rfl); (case hg => kernel_rfl); (case hfx => rfl); (case hfy => rfl); (case hb => exact He.out))
      | ((with_reducible refine tot_done ?ht ?_); (case ht => kernel_rfl))
      | ((with_reducible apply wps_boxa S); (case hx => rfl); clear S; intro bz wz S)
      | ((with_reducible apply wps_box1 (v := .int _ _) S); (case hx => rfl); (case h1 => rfl); clear S; intro bz wz S)
      | ((with_reducible apply wps_box1 (v := .bool _) S); (case hx => rfl); (case h1 => rfl); clear S; intro bz wz S)
      | ((with_reducible apply wps_box1 (v := .slice _ _ _) S); (case hx => rfl); (case h1 => rfl); clear S; intro bz wz S)
      | ((with_reducible apply wps_box1 (v := .pointer _) S); (case hx => rfl); (case h1 => rfl); clear S; intro bz wz S)
      | ((with_reducible apply wps_box1 (v := .map _) S); (case hx => rfl); (case h1 => rfl); clear S; intro bz wz S)
      | ((with_reducible apply wps_box1 (v := .string _) S); (case hx => rfl); (case h1 => rfl); clear S; intro bz wz S)
      | ((with_reducible apply wps_box1 (v := .func _ _ _) S); (case hx => rfl); (case h1 => rfl); clear S; intro bz wz S)
      | ((with_reducible apply wps_load S 0); (case hx => rfl); (case hi => rfl); (case hT => decide +kernel); (case hu => rfl))
      | ((with_reducible apply wps_loada (T := 30) (k := 7) S 0); (case hx => rfl); (case hi => rfl); (case hT => decide +kernel); (case hk => exact Nat.le_of_ble_eq_true rfl))
      | ((with_reducible apply wps_load S 1); (case hx => rfl); (case hi => rfl); (case hT => decide +kernel); (case hu => rfl))
      | ((with_reducible apply wps_loada (T := 30) (k := 7) S 1); (case hx => rfl); (case hi => rfl); (case hT => decide +kernel); (case hk => exact Nat.le_of_ble_eq_true rfl))
      | ((with_reducible apply wps_load S 2); (case hx => rfl); (case hi => rfl); (case hT => decide +kernel); (case hu => rfl))
      | ((with_reducible apply wps_loada (T := 30) (k := 7) S 2); (case hx => rfl); (case hi => rfl); (case hT => decide +kernel); (case hk => exact Nat.le_of_ble_eq_true rfl))
      | ((with_reducible apply wps_load S 3); (case hx => rfl); (case hi => rfl); (case hT => decide +kernel); (case hu => rfl))
      | ((with_reducible apply wps_loada (T := 30) (k := 7) S 3); (case hx => rfl); (case hi => rfl); (case hT => decide +kernel); (case hk => exact Nat.le_of_ble_eq_true rfl))
    go_ret
    exact ⟨ret_bool (by simp), S.below⟩
end Go.Proofs.Ytcbdacmdmaoegaa

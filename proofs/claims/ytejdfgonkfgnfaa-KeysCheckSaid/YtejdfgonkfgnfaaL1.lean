import Derived.Test.YtejdfgonkfgnfaaK7
/- The walk of the law KeysOrder. -/
namespace Go.Proofs.Ytejdfgonkfgnfaa
open Go Go.RowKit Reg Mem

theorem cmp_cases (k l : Key) : (k.lt l = true ∧ k.cmp l = -1 ∧ l.cmp k = 1 ∧ k ≠ l) ∨ (k = l ∧ k.cmp l = 0) ∨ (l.lt k = true ∧ k.cmp l = 1 ∧ l.cmp k = -1 ∧ k ≠ l) := by
  cases h : k.lt l with
  | true =>
    have := Key.lt_asymm' h
    exact .inl ⟨rfl, by simp [Key.cmp, h], by simp [Key.cmp, h, this], fun e => by subst e; rw [Key.lt_irrefl'] at h; cases h⟩
  | false =>
    cases h2 : l.lt k with
    | true => exact .inr (.inr ⟨rfl, by simp [Key.cmp, h, h2], by simp [Key.cmp, h2], fun e => by subst e; rw [Key.lt_irrefl'] at h2; cases h2⟩)
    | false => exact .inr (.inl ⟨Key.eq_of h h2, by simp [Key.cmp, h, h2]⟩)
theorem cmp_self (k : Key) : k.cmp k = 0 := by simp [Key.cmp, Key.lt_irrefl']
theorem key_ceqs (k l : Key) : ceqs k.cells l.cells = decide (k = l) := by
  obtain ⟨a1, a2, a3, a4⟩ := k; obtain ⟨b1, b2, b3, b4⟩ := l
  simp only [Key.cells, ceqs, ceq, Bool.and_true, Key.mk.injEq]
  rw [Bool.eq_iff_iff]; simp
/-- What is asked of the four answers. -/
def Trio (x y z v : Int) (e : Bool) : Prop := (x = 1 ∧ y = -1 ∧ e = false) ∨ (x = -1 ∧ y = 1 ∧ e = false ∧ ((z = 1) ∨ (z = 0 ∧ v = -1) ∨ (z = -1 ∧ v = -1))) ∨ (x = 0 ∧ y = 0 ∧ e = true ∧ ((z = 1) ∨ (z = 0 ∧ v = 0) ∨ (z = -1 ∧ v = -1)))
theorem trio (a b c : Key) : Trio (a.cmp b) (b.cmp a) (b.cmp c) (a.cmp c) (decide (a = b)) := by
  rcases cmp_cases a b with ⟨h, e1, e2, hn⟩ | ⟨rfl, e1⟩ | ⟨h, e1, e2, hn⟩
  · refine .inr (.inl ⟨e1, e2, by simp [hn], ?_⟩)
    rcases cmp_cases b c with ⟨h2, e3, e4, hn2⟩ | ⟨rfl, e3⟩ | ⟨h2, e3, e4, hn2⟩
    · exact .inr (.inr ⟨e3, by simp [Key.cmp, Key.lt_trans' h h2]⟩)
    · exact .inr (.inl ⟨e3, e1⟩)
    · exact .inl e3
  · refine .inr (.inr ⟨e1, e1, by simp, ?_⟩)
    rcases cmp_cases a c with ⟨h2, e3, e4, hn2⟩ | ⟨rfl, e3⟩ | ⟨h2, e3, e4, hn2⟩
    · exact .inr (.inr ⟨e3, e3⟩)
    · exact .inr (.inl ⟨e3, e3⟩)
    · exact .inl e3
  · exact .inl ⟨e1, e2, by simp [hn]⟩
set_option maxRecDepth 100000 in
set_option maxHeartbeats 8000000 in
theorem korder_calls (a b c : Key) (w : World) : Calls Try.prog 3 #[.agg #[.int .i64 a.at_, .int .i64 a.src, .int .i64 a.sent, .int .i64 a.no], .agg #[.int .i64 b.at_, .int .i64 b.src, .int .i64 b.sent, .int .i64 b.no], .agg #[.int .i64 c.at_, .int .i64 c.src, .int .i64 c.sent, .int .i64 c.no]] w fun r w' => r = .returned (.bool true) ∧ Below w.heap.size w w' := by
  have S := St.init (fun _ => False) w
  have ht := trio a b c
  have hs := cmp_self a
  have he := key_ceqs a b
  obtain ⟨a1, a2, a3, a4⟩ := a
  obtain ⟨b1, b2, b3, b4⟩ := b
  obtain ⟨c1, c2, c3, c4⟩ := c
  generalize hx : Key.cmp ⟨a1, a2, a3, a4⟩ ⟨b1, b2, b3, b4⟩ = x at ht
  generalize hy : Key.cmp ⟨b1, b2, b3, b4⟩ ⟨a1, a2, a3, a4⟩ = y at ht
  generalize hz : Key.cmp ⟨b1, b2, b3, b4⟩ ⟨c1, c2, c3, c4⟩ = z at ht
  generalize hv : Key.cmp ⟨a1, a2, a3, a4⟩ ⟨c1, c2, c3, c4⟩ = v at ht
  generalize (decide ((⟨a1, a2, a3, a4⟩ : Key) = ⟨b1, b2, b3, b4⟩)) = e at ht he
  have Hx := Lib.hid hx
  have Hy := Lib.hid hy
  have Hz := Lib.hid hz
  have Hv := Lib.hid hv
  have Hs := Lib.hid hs
  have He := Lib.hid he
  clear hx hy hz hv hs he
  simp only [Trio] at ht
  rcases ht with ⟨rfl, rfl, rfl⟩ | ⟨rfl, rfl, rfl, rfl | ⟨rfl, rfl⟩ | ⟨rfl, rfl⟩⟩ | ⟨rfl, rfl, rfl, rfl | ⟨rfl, rfl⟩ | ⟨rfl, rfl⟩⟩
  all_goals
    go_enter Try.func3, Try.ntmps3
    go_wp2_with first
      | (go_at_call 11; refine Calls.mono (compare_calls _ _ _ _ _ _ _ _ _) ?_; rintro e wz ⟨rfl, hE⟩; (first | rw [Hx.out] | rw [Hy.out] | rw [Hz.out] | rw [Hv.out] | rw [Hs.out]); replace S := S.ext (Keep.of_below hE); clear hE)
      | ((with_reducible apply wpList_eql_agg (t := 23) (ks := [.int .i64, .int .i64, .int .i64, .int .i64]) (b := _)); (case hx => rfl); (case hy => rfl); (case hl => kernel_rfl); (case ha => kernel_rfl); (case hg => kernel_rfl); (case hfx => rfl); (case hfy => rfl); (case hb => exact He.out))
      | (go_at_call 12; refine Calls.mono (awake_calls _) ?_; rintro e wz ⟨rfl, hE⟩; replace S := S.ext (Keep.of_below hE); clear hE)
      | ((with_reducible refine tot_done ?ht ?_); (case ht => kernel_rfl))
      | ((with_reducible apply wps_boxa S); (case hx => rfl); clear S; intro bz wz S)
      | ((with_reducible apply wps_box1 (v := .int _ _) S); (case hx => rfl); (case h1 => rfl); clear S; intro bz wz S)
      | ((with_reducible apply wps_box1 (v := .bool _) S); (case hx => rfl); (case h1 => rfl); clear S; intro bz wz S)
      | ((with_reducible apply wps_box1 (v := .slice _ _ _) S); (case hx => rfl); (case h1 => rfl); clear S; intro bz wz S)
      | ((with_reducible apply wps_box1 (v := .pointer _) S); (case hx => rfl); (case h1 => rfl); clear S; intro bz wz S)
      | ((with_reducible apply wps_box1 (v := .map _) S); (case hx => rfl); (case h1 => rfl); clear S; intro bz wz S)
      | ((with_reducible apply wps_box1 (v := .string _) S); (case hx => rfl); (case h1 => rfl); clear S; intro bz wz S)
      | ((with_reducible apply wps_box1 (v := .func _ _ _) S); (case hx => rfl); (case h1 => rfl); clear S; intro bz wz S)
      | ((with_reducible apply wps_loada (T := 23) (k := 4) S 0); (case hx => rfl); (case hi => rfl); (case hT => decide +kernel); (case hk => exact Nat.le_of_ble_eq_true rfl))
      | ((with_reducible apply wps_loada (T := 23) (k := 4) S 1); (case hx => rfl); (case hi => rfl); (case hT => decide +kernel); (case hk => exact Nat.le_of_ble_eq_true rfl))
      | ((with_reducible apply wps_loada (T := 23) (k := 4) S 2); (case hx => rfl); (case hi => rfl); (case hT => decide +kernel); (case hk => exact Nat.le_of_ble_eq_true rfl))
      | ((with_reducible apply wps_loada (T := 23) (k := 4) S 3); (case hx => rfl); (case hi => rfl); (case hT => decide +kernel); (case hk => exact Nat.le_of_ble_eq_true rfl))
    go_ret
    exact ⟨by simp, S.below⟩
end Go.Proofs.Ytejdfgonkfgnfaa

import Derived.Test.YtjmecncebdbhdaaDoorU15
import Derived.Test.YtjmecncebdbhdaaDoorU12
import Derived.Test.YtjmecncebdbhdaaDoorU09
import Derived.Test.YtjmecncebdbhdaaDoorU04
import Derived.Deep.CutRange
import Derived.Test.YtjmecncebdbhdaaDoorU17
import Derived.Test.YtjmecncebdbhdaaDoorProg
import Derived.Shelf.SlLaysF0
import Derived.KernelRfl
/- The walk of inq.Compare: a total order of events. -/
namespace Go.Proofs.YtjmecncebdbhdaaDoor
open Go.RowKit Reg Mem Go.Sort

def Event.tcmp (a b : Event) : Int := if a.key.lt b.key then -1 else if b.key.lt a.key then 1 else orL [icmp a.dst b.dst, icmp a.kind b.kind, icmp a.data b.data]
theorem bef_is {a b : Key} {v : Bool} (h : a.lt b = v) (w : World) : Calls Tryd.prog 51 #[.agg #[.int .i64 a.at_, .int .i64 a.src, .int .i64 a.sent, .int .i64 a.no], .agg #[.int .i64 b.at_, .int .i64 b.src, .int .i64 b.sent, .int .i64 b.no]] w fun e w' => e = .returned (.bool v) ∧ Below w.heap.size w w' := by
  subst h; exact before_calls _ _ _ _ _ _ _ _ _
set_option maxRecDepth 100000 in
set_option maxHeartbeats 4000000 in
theorem icmpare_calls (a b : Event) (w : World) : Calls Tryd.prog 25 #[.agg #[.int .i64 a.key.at_, .int .i64 a.key.src, .int .i64 a.key.sent, .int .i64 a.key.no, .int .i64 a.dst, .int .i64 a.kind, .int .i64 a.data], .agg #[.int .i64 b.key.at_, .int .i64 b.key.src, .int .i64 b.key.sent, .int .i64 b.key.no, .int .i64 b.dst, .int .i64 b.kind, .int .i64 b.data]] w fun e w' => e = .returned (.int .i64 (a.tcmp b)) ∧ Below w.heap.size w w' := by
  have S := St.init (fun _ => False) w
  cases h1 : a.key.lt b.key with
  | true =>
    have H1 := Lib.hid (bef_is h1)
    go_enter Tryd.func25, Tryd.ntmps25
    go_wp2_with first | (go_at_call 51; have hcz := fun w => H1.out w; (with_reducible refine Calls.mono (hcz _) ?_); clear hcz; rintro e wz ⟨rfl, hE⟩; replace S := S.ext (Keep.of_below hE); clear hE) | ((with_reducible refine tot_done ?ht ?_); (case ht => kernel_rfl)) | ((with_reducible apply wps_text S); (case hm => kernel_rfl); (case hB => decide +kernel); clear S; intro wz S) | ((with_reducible apply wps_boxa S); (case hx => rfl); clear S; intro bz wz S) | ((with_reducible apply wps_box1 (v := .int _ _) S); (case hx | h1 => rfl); clear S; intro bz wz S) | ((with_reducible apply wps_box1 (v := .bool _) S); (case hx | h1 => rfl); clear S; intro bz wz S) | ((with_reducible apply wps_box1 (v := .slice _ _ _) S); (case hx | h1 => rfl); clear S; intro bz wz S) | ((with_reducible apply wps_box1 (v := .pointer _) S); (case hx | h1 => rfl); clear S; intro bz wz S) | ((with_reducible apply wps_box1 (v := .map _) S); (case hx | h1 => rfl); clear S; intro bz wz S) | ((with_reducible apply wps_box1 (v := .string _) S); (case hx | h1 => rfl); clear S; intro bz wz S) | ((with_reducible apply wps_box1 (v := .func _ _ _) S); (case hx | h1 => rfl); clear S; intro bz wz S) | ((with_reducible apply wps_load S 0); (case hx | hi | hu => rfl); (case hT => decide +kernel)) | ((with_reducible apply wps_loada (T := 50) (k := 4) S 0); (case hx | hi => rfl); (case hk => exact Nat.le_of_ble_eq_true rfl); (case hT => decide +kernel)) | ((with_reducible apply wps_load S 1); (case hx | hi | hu => rfl); (case hT => decide +kernel)) | ((with_reducible apply wps_loada (T := 50) (k := 4) S 1); (case hx | hi => rfl); (case hk => exact Nat.le_of_ble_eq_true rfl); (case hT => decide +kernel)) | ((with_reducible apply wps_load S 2); (case hx | hi | hu => rfl); (case hT => decide +kernel)) | ((with_reducible apply wps_loada (T := 50) (k := 4) S 2); (case hx | hi => rfl); (case hk => exact Nat.le_of_ble_eq_true rfl); (case hT => decide +kernel)) | ((with_reducible apply wps_load S 3); (case hx | hi | hu => rfl); (case hT => decide +kernel)) | ((with_reducible apply wps_loada (T := 50) (k := 4) S 3); (case hx | hi => rfl); (case hk => exact Nat.le_of_ble_eq_true rfl); (case hT => decide +kernel))
    go_ret
    exact ⟨ret_int (by unfold Event.tcmp; rw [if_pos h1]), S.below⟩
  | false =>
    have H1 := Lib.hid (bef_is h1)
    cases h2 : b.key.lt a.key with
    | true =>
      have H2 := Lib.hid (bef_is h2)
      go_enter Tryd.func25, Tryd.ntmps25
      go_wp2_with first | (go_at_call 51; have hcz := fun w => H1.out w; (with_reducible refine Calls.mono (hcz _) ?_); clear hcz; rintro e wz ⟨rfl, hE⟩; replace S := S.ext (Keep.of_below hE); clear hE) | (go_at_call 51; have hcz := fun w => H2.out w; (with_reducible refine Calls.mono (hcz _) ?_); clear hcz; rintro e wz ⟨rfl, hE⟩; replace S := S.ext (Keep.of_below hE); clear hE) | ((with_reducible refine tot_done ?ht ?_); (case ht => kernel_rfl)) | ((with_reducible apply wps_text S); (case hm => kernel_rfl); (case hB => decide +kernel); clear S; intro wz S) | ((with_reducible apply wps_boxa S); (case hx => rfl); clear S; intro bz wz S) | ((with_reducible apply wps_box1 (v := .int _ _) S); (case hx | h1 => rfl); clear S; intro bz wz S) | ((with_reducible apply wps_box1 (v := .bool _) S); (case hx | h1 => rfl); clear S; intro bz wz S) | ((with_reducible apply wps_box1 (v := .slice _ _ _) S); (case hx | h1 => rfl); clear S; intro bz wz S) | ((with_reducible apply wps_box1 (v := .pointer _) S); (case hx | h1 => rfl); clear S; intro bz wz S) | ((with_reducible apply wps_box1 (v := .map _) S); (case hx | h1 => rfl); clear S; intro bz wz S) | ((with_reducible apply wps_box1 (v := .string _) S); (case hx | h1 => rfl); clear S; intro bz wz S) | ((with_reducible apply wps_box1 (v := .func _ _ _) S); (case hx | h1 => rfl); clear S; intro bz wz S) | ((with_reducible apply wps_load S 0); (case hx | hi | hu => rfl); (case hT => decide +kernel)) | ((with_reducible apply wps_loada (T := 50) (k := 4) S 0); (case hx | hi => rfl); (case hk => exact Nat.le_of_ble_eq_true rfl); (case hT => decide +kernel)) | ((with_reducible apply wps_load S 1); (case hx | hi | hu => rfl); (case hT => decide +kernel)) | ((with_reducible apply wps_loada (T := 50) (k := 4) S 1); (case hx | hi => rfl); (case hk => exact Nat.le_of_ble_eq_true rfl); (case hT => decide +kernel)) | ((with_reducible apply wps_load S 2); (case hx | hi | hu => rfl); (case hT => decide +kernel)) | ((with_reducible apply wps_loada (T := 50) (k := 4) S 2); (case hx | hi => rfl); (case hk => exact Nat.le_of_ble_eq_true rfl); (case hT => decide +kernel)) | ((with_reducible apply wps_load S 3); (case hx | hi | hu => rfl); (case hT => decide +kernel)) | ((with_reducible apply wps_loada (T := 50) (k := 4) S 3); (case hx | hi => rfl); (case hk => exact Nat.le_of_ble_eq_true rfl); (case hT => decide +kernel))
      go_ret
      exact ⟨ret_int (by unfold Event.tcmp; rw [h1, h2]; rfl), S.below⟩
    | false =>
      have H2 := Lib.hid (bef_is h2)
      have e : a.tcmp b = orL [icmp a.dst b.dst, icmp a.kind b.kind, icmp a.data b.data] := by unfold Event.tcmp; rw [h1, h2]; rfl
      rw [e]
      clear h1 h2 e
      go_enter Tryd.func25, Tryd.ntmps25
      go_wp2_with first | (go_at_call 51; have hcz := fun w => H1.out w; (with_reducible refine Calls.mono (hcz _) ?_); clear hcz; rintro e wz ⟨rfl, hE⟩; replace S := S.ext (Keep.of_below hE); clear hE) | (go_at_call 51; have hcz := fun w => H2.out w; (with_reducible refine Calls.mono (hcz _) ?_); clear hcz; rintro e wz ⟨rfl, hE⟩; replace S := S.ext (Keep.of_below hE); clear hE) | ((with_reducible refine tot_done ?ht ?_); (case ht => kernel_rfl)) | ((with_reducible apply wps_boxa S); (case hx => rfl); clear S; intro bz wz S) | ((with_reducible apply wps_box1 (v := .int _ _) S); (case hx | h1 => rfl); clear S; intro bz wz S) | ((with_reducible apply wps_box1 (v := .bool _) S); (case hx | h1 => rfl); clear S; intro bz wz S) | ((with_reducible apply wps_box1 (v := .slice _ _ _) S); (case hx | h1 => rfl); clear S; intro bz wz S) | ((with_reducible apply wps_box1 (v := .pointer _) S); (case hx | h1 => rfl); clear S; intro bz wz S) | ((with_reducible apply wps_box1 (v := .map _) S); (case hx | h1 => rfl); clear S; intro bz wz S) | ((with_reducible apply wps_box1 (v := .string _) S); (case hx | h1 => rfl); clear S; intro bz wz S) | ((with_reducible apply wps_box1 (v := .func _ _ _) S); (case hx | h1 => rfl); clear S; intro bz wz S) | ((with_reducible apply wps_load S 0); (case hx | hi | hu => rfl); (case hT => decide +kernel)) | ((with_reducible apply wps_loada (T := 50) (k := 4) S 0); (case hx | hi => rfl); (case hk => exact Nat.le_of_ble_eq_true rfl); (case hT => decide +kernel)) | ((with_reducible apply wps_load S 1); (case hx | hi | hu => rfl); (case hT => decide +kernel)) | ((with_reducible apply wps_loada (T := 50) (k := 4) S 1); (case hx | hi => rfl); (case hk => exact Nat.le_of_ble_eq_true rfl); (case hT => decide +kernel)) | ((with_reducible apply wps_load S 2); (case hx | hi | hu => rfl); (case hT => decide +kernel)) | ((with_reducible apply wps_loada (T := 50) (k := 4) S 2); (case hx | hi => rfl); (case hk => exact Nat.le_of_ble_eq_true rfl); (case hT => decide +kernel)) | ((with_reducible apply wps_load S 3); (case hx | hi | hu => rfl); (case hT => decide +kernel)) | ((with_reducible apply wps_loada (T := 50) (k := 4) S 3); (case hx | hi => rfl); (case hk => exact Nat.le_of_ble_eq_true rfl); (case hT => decide +kernel))
      (refine wp_region_w (soft := [0, 1, 2, 3, 4, 5, 6, 7, 8, 9, 10, 11, 12, 13, 14]) S ?hm ?hB ?_); (case hm => kernel_rfl); (case hB => decide +kernel); clear S
      iterate 15
        (with_reducible apply softs_cons)
        (case hw =>
          (with_reducible apply soft_of); (case hi => rfl)
          intro T wz S
          simp only [List.cons_append, List.nil_append] at S
          go_wp2_with first | (go_at_call 53; refine Calls.mono (cmpInt_calls _ _ _) ?_; rintro e wz ⟨rfl, hE⟩; replace S := S.ext (Keep.of_below hE); clear hE) | ((with_reducible refine tot_done ?ht ?_); (case ht => kernel_rfl)) | ((with_reducible apply wps_load S 0); (case hx | hi | hu => rfl); (case hT => decide +kernel)) | ((with_reducible apply wps_loada (T := 50) (k := 4) S 0); (case hx | hi => rfl); (case hk => exact Nat.le_of_ble_eq_true rfl); (case hT => decide +kernel)) | ((with_reducible apply wps_load S 1); (case hx | hi | hu => rfl); (case hT => decide +kernel)) | ((with_reducible apply wps_loada (T := 50) (k := 4) S 1); (case hx | hi => rfl); (case hk => exact Nat.le_of_ble_eq_true rfl); (case hT => decide +kernel)) | ((with_reducible apply wps_load S 2); (case hx | hi | hu => rfl); (case hT => decide +kernel)) | ((with_reducible apply wps_loada (T := 50) (k := 4) S 2); (case hx | hi => rfl); (case hk => exact Nat.le_of_ble_eq_true rfl); (case hT => decide +kernel)) | ((with_reducible apply wps_load S 3); (case hx | hi | hu => rfl); (case hT => decide +kernel)) | ((with_reducible apply wps_loada (T := 50) (k := 4) S 3); (case hx | hi => rfl); (case hk => exact Nat.le_of_ble_eq_true rfl); (case hT => decide +kernel))
          exact ⟨rfl, S⟩)
        (case hs => exact ⟨_, rfl, by kernel_rfl⟩)
      refine softs_nil ?_
      repeat'
        (first
          | ((with_reducible apply W_hard1 (i := 15)); (case hn => rfl); (case hr => decide +kernel)) | ((with_reducible apply W_hard1 (i := 16)); (case hn => rfl); (case hr => decide +kernel)) | ((with_reducible apply W_hard1 (i := 17)); (case hn => rfl); (case hr => decide +kernel)) | ((with_reducible apply W_hard2 (i := 15) (i' := 16)); (case hn => rfl); (case hr => decide +kernel)) | ((with_reducible apply W_hard2 (i := 15) (i' := 17)); (case hn => rfl); (case hr => decide +kernel)) | ((with_reducible apply W_hard2 (i := 16) (i' := 17)); (case hn => rfl); (case hr => decide +kernel)))
        all_goals
          intro wz S
          (with_reducible apply hard_of); (case hi => rfl)
          simp only [List.cons_append, List.nil_append] at S
          try simp only [pick, nth] at S
          go_wp2_with first | ((with_reducible apply wps_buildSlice (T := 131) (E := 3) (cs := #[.int .i64 (icmp a.dst b.dst), .int .i64 (icmp a.kind b.kind), .int .i64 (icmp a.data b.data)]) S); (case hr => intro w; kernel_rfl); clear S; intro bz wz S) | (go_at_call 52; refine Calls.mono (orInt_calls _ [icmp a.dst b.dst, icmp a.kind b.kind, icmp a.data b.data] _ _ (blk_sl _ intE_len (S.get (i := 2) rfl).choose_spec rfl rfl) (Nat.le_of_ble_eq_true rfl)) ?_; rintro e wz ⟨rfl, hE⟩; replace S := S.ext (Keep.of_below hE); clear hE) | ((with_reducible refine tot_done ?ht ?_); (case ht => kernel_rfl)) | ((with_reducible apply wps_load S 0); (case hx | hi | hu => rfl); (case hT => decide +kernel)) | ((with_reducible apply wps_loada (T := 50) (k := 4) S 0); (case hx | hi => rfl); (case hk => exact Nat.le_of_ble_eq_true rfl); (case hT => decide +kernel)) | ((with_reducible apply wps_load S 1); (case hx | hi | hu => rfl); (case hT => decide +kernel)) | ((with_reducible apply wps_loada (T := 50) (k := 4) S 1); (case hx | hi => rfl); (case hk => exact Nat.le_of_ble_eq_true rfl); (case hT => decide +kernel)) | ((with_reducible apply wps_load S 2); (case hx | hi | hu => rfl); (case hT => decide +kernel)) | ((with_reducible apply wps_loada (T := 50) (k := 4) S 2); (case hx | hi => rfl); (case hk => exact Nat.le_of_ble_eq_true rfl); (case hT => decide +kernel)) | ((with_reducible apply wps_load S 3); (case hx | hi | hu => rfl); (case hT => decide +kernel)) | ((with_reducible apply wps_loada (T := 50) (k := 4) S 3); (case hx | hi => rfl); (case hk => exact Nat.le_of_ble_eq_true rfl); (case hT => decide +kernel)) | ((with_reducible apply wps_load S 4); (case hx | hi | hu => rfl); (case hT => decide +kernel)) | ((with_reducible apply wps_loada (T := 50) (k := 4) S 4); (case hx | hi => rfl); (case hk => exact Nat.le_of_ble_eq_true rfl); (case hT => decide +kernel)) | ((with_reducible apply wps_load S 5); (case hx | hi | hu => rfl); (case hT => decide +kernel)) | ((with_reducible apply wps_loada (T := 50) (k := 4) S 5); (case hx | hi => rfl); (case hk => exact Nat.le_of_ble_eq_true rfl); (case hT => decide +kernel))
          first
            | refine ⟨_, S.pick [1, 2, 3, 4, 5, 6, 0] rfl, ?_⟩
            | refine ⟨_, S.pick [1, 2, 3, 4, 5, 0] rfl, ?_⟩
            | refine ⟨_, S.pick [1, 2, 3, 4, 0] rfl, ?_⟩
            | refine ⟨_, S.pick [1, 2, 3, 0] rfl, ?_⟩
            | refine ⟨_, S.pick [1, 2, 0] rfl, ?_⟩
            | refine ⟨_, S, ?_⟩
      (with_reducible apply W_done); (case hn => rfl); (case hr => decide +kernel)
      clear S
      intro wz S
      simp only [List.cons_append, List.nil_append] at S
      try simp only [pick, nth] at S
      go_wp2_with first | ((with_reducible refine tot_done ?ht ?_); (case ht => kernel_rfl)) | ((with_reducible apply wps_text S); (case hm => kernel_rfl); (case hB => decide +kernel); clear S; intro wz S) | ((with_reducible apply wps_load S 0); (case hx | hi | hu => rfl); (case hT => decide +kernel)) | ((with_reducible apply wps_loada (T := 50) (k := 4) S 0); (case hx | hi => rfl); (case hk => exact Nat.le_of_ble_eq_true rfl); (case hT => decide +kernel)) | ((with_reducible apply wps_load S 1); (case hx | hi | hu => rfl); (case hT => decide +kernel)) | ((with_reducible apply wps_loada (T := 50) (k := 4) S 1); (case hx | hi => rfl); (case hk => exact Nat.le_of_ble_eq_true rfl); (case hT => decide +kernel)) | ((with_reducible apply wps_load S 2); (case hx | hi | hu => rfl); (case hT => decide +kernel)) | ((with_reducible apply wps_loada (T := 50) (k := 4) S 2); (case hx | hi => rfl); (case hk => exact Nat.le_of_ble_eq_true rfl); (case hT => decide +kernel)) | ((with_reducible apply wps_load S 3); (case hx | hi | hu => rfl); (case hT => decide +kernel)) | ((with_reducible apply wps_loada (T := 50) (k := 4) S 3); (case hx | hi => rfl); (case hk => exact Nat.le_of_ble_eq_true rfl); (case hT => decide +kernel))
      go_ret
      exact ⟨rfl, S.below⟩
theorem icmp_cases (x y : Int) : (x < y ∧ icmp x y = -1) ∨ (x = y ∧ icmp x y = 0) ∨ (y < x ∧ icmp x y = 1) := by
  unfold icmp
  rcases Int.lt_trichotomy x y with h | h | h
  · exact .inl ⟨h, by rw [if_pos h]⟩
  · exact .inr (.inl ⟨h, by rw [if_neg (by omega), if_neg (by omega)]⟩)
  · exact .inr (.inr ⟨h, by rw [if_neg (by omega), if_pos h]⟩)
theorem tcmp_neg (a b : Event) : decide (a.tcmp b < 0) = decide (evLt a b) := by
  rw [decide_eq_decide]
  have hl : ∀ k l : Key, k.lt l = decide (k.at_ < l.at_ ∨ (k.at_ = l.at_ ∧ (k.src < l.src ∨ (k.src = l.src ∧ (k.sent < l.sent ∨ (k.sent = l.sent ∧ k.no < l.no)))))) := fun k l => by
    rw [Bool.eq_iff_iff, Key.lt_iff]; simp
  unfold Event.tcmp evLt
  rw [hl, hl]
  simp only [decide_eq_true_eq]
  split
  · constructor
    · intro _; omega
    · intro _; omega
  · split
    · constructor
      · intro h; omega
      · intro _; omega
    · simp only [orL]
      rcases icmp_cases a.dst b.dst with ⟨h1, e1⟩ | ⟨h1, e1⟩ | ⟨h1, e1⟩ <;> rw [e1]
      · constructor
        · intro _; omega
        · intro _; simp
      · rcases icmp_cases a.kind b.kind with ⟨h2, e2⟩ | ⟨h2, e2⟩ | ⟨h2, e2⟩ <;> rw [e2]
        · constructor
          · intro _; omega
          · intro _; simp
        · rcases icmp_cases a.data b.data with ⟨h3, e3⟩ | ⟨h3, e3⟩ | ⟨h3, e3⟩ <;> rw [e3]
          · constructor
            · intro _; omega
            · intro _; simp
          · constructor
            · intro h; exact absurd h (by simp)
            · intro _; omega
          · constructor
            · intro h; exact absurd h (by simp)
            · intro _; omega
        · constructor
          · intro h; exact absurd h (by simp)
          · intro _; omega
      · constructor
        · intro h; exact absurd h (by simp)
        · intro _; omega
theorem swo_ev : SWO (ltOf Event.tcmp) := by
  have e : (ltOf Event.tcmp) = fun x y => decide (evLt x y) := by
    funext x y; exact tcmp_neg _ _
  rw [e]
  refine ⟨fun x => ?_, fun x y z h k => ?_, fun x y z h k => ?_⟩
  · simp [evLt_irrefl]
  · simp only [decide_eq_true_eq] at *; exact evLt_trans h k
  · simp only [decide_eq_false_iff_not] at *
    unfold evLt at *; omega
theorem sorted_ev {l ys : List Event} (hp : ys.Perm l) (hs : ys.Pairwise (fun a b => ltOf Event.tcmp b a = false)) : ys = sortT l := by
  refine sortT_eq hp (hs.imp fun {a b} h => ?_)
  have := tcmp_neg b a
  unfold ltOf at h
  rw [h] at this
  simpa using this.symm
theorem icmpare_grew (a b : Event) (w : World) : Calls Tryd.prog 25 #[.agg a.cells.toArray, .agg b.cells.toArray] w fun e w' => e = .returned (.int .i64 (a.tcmp b)) ∧ Grew w w' :=
  (icmpare_calls a b w).mono fun _ _ h => ⟨h.1, Grew.of_keep (Keep.of_below h.2)⟩
end Go.Proofs.YtjmecncebdbhdaaDoor
/- The walks of keys.Of, keys.Check and the law's Events (as in K1, K8, L6), for a seat that has these alone. -/
namespace Go.Proofs.YtjmecncebdbhdaaDoor
open Go Go.RowKit Reg Mem

theorem ev_nceqs (a b : Event) : (!ceqs a.cells b.cells) = !decide (a = b) := by
  congr 1
  obtain ⟨⟨a1, a2, a3, a4⟩, a5, a6, a7⟩ := a; obtain ⟨⟨b1, b2, b3, b4⟩, b5, b6, b7⟩ := b
  simp only [Event.cells, ceqs, ceq, Bool.and_true, Event.mk.injEq, Key.mk.injEq]
  rw [Bool.eq_iff_iff]; simp [and_assoc]
def chk (e : Event) : Int :=
  if e.key.src < -1 ∨ 32 ≤ e.key.src ∨ e.dst < 0 ∨ 32 ≤ e.dst ∨ e.key.no < 0 ∨ 1024 ≤ e.key.no ∨ e.key.at_ < 0 ∨ 1073741824 < e.key.at_ then 10
  else if e.key.sent < -1 ∨ e.key.at_ ≤ e.key.sent then 18 else 0
end Go.Proofs.YtjmecncebdbhdaaDoor
/- Plain: what is sent in a batch; and a configuration that is shared. -/
namespace Go.Proofs.YtjmecncebdbhdaaDoor
open Go Go.RowKit Mem

section
variable {G : Nat → Prop} {w0 w : World} {L : List Asn} {vs hs : List Value} {c : Cfg}
theorem Mem.St.cfgShare (S : St G w0 w L) (i : Nat) (hi : L[i]? = some (CfgA false vs hs c)) : St G w0 w (L.set i (CfgA true vs hs c)) :=
  S.weak hi (fun e => by cases e) (fun F h => ⟨F, fun _ hb => hb, h⟩)
end
/-- What is known of each message's event. -/
structure SentOk (n : Nat) (fin lp at_ : Int) (out : List Event) : Prop where
  each : ∀ (i : Nat) (x : Event), out[i]? = some x → x.key.src = lp ∧ x.key.sent = at_ ∧ x.key.no = i ∧ at_ < x.key.at_ ∧ x.key.at_ ≤ fin ∧ 0 ≤ x.dst ∧ x.dst < n
theorem batch_len (c : Cfg) (lp : Int) (s : State) (l : List Event) (h : 0 ≤ c.fan) : ((batchC c lp s l).2.length : Int) ≤ c.fan * l.length := by
  have := ones_len (p := progOf c lp) (n := c.lps.length) (fin := c.fin) (fuel := c.fuel) (lp := lp) (at_ := atE l) h (sortE l) (s, [])
  rw [sortE_len] at this
  have e : (s, ([] : List Event)).2.length = 0 := rfl
  rw [e] at this
  unfold batchC batchE
  omega
end Go.Proofs.YtjmecncebdbhdaaDoor
/- Plain: a batch that was done. -/
namespace Go.Proofs.YtjmecncebdbhdaaDoor
open Go Go.RowKit Mem

/-- What a process did at one time. -/
structure BatE where
  at_ : Int
  lp : Int
  ins : List Event
  thn : State
  sent : List Event
theorem twh_mem {α : Type} (p : α → Bool) : ∀ (l : List α), ∀ x ∈ l.takeWhile p, p x = true ∧ x ∈ l
  | [], x, h => by simp at h
  | a :: l, x, h => by
    by_cases e : p a = true
    · rw [List.takeWhile_cons, if_pos e] at h
      rcases List.mem_cons.1 h with rfl | h
      · exact ⟨e, by simp⟩
      · exact ⟨(twh_mem p l x h).1, List.mem_cons_of_mem _ (twh_mem p l x h).2⟩
    · rw [List.takeWhile_cons, if_neg e] at h; simp at h
end Go.Proofs.YtjmecncebdbhdaaDoor
/- Plain: a log of what is done for good; what is wrong with events that are to be committed; the batches of a commit. No program in sight. -/
namespace Go.Proofs.YtjmecncebdbhdaaDoor
open Go Go.RowKit Mem

/-- Two events have one key, and go to one process. -/
def dupB (l : List Event) : Bool := !decide ((l.map fun x => (x.key, x.dst)).Nodup)
/-- What is wrong with events that are to be committed. -/
def wrongL (n : Nat) (time below : Int) (l : List Event) : Int :=
  if below < time ∨ 1073741825 < below then 18 else if ¬ (∀ x ∈ l, time ≤ x.key.at_ ∧ x.key.at_ < below) then 18
  else if ¬ (∀ x ∈ l, 0 ≤ x.dst ∧ x.dst < n) then 10 else if dupB l = true then 13 else 0
theorem dup_perm {l m : List Event} (h : l.Perm m) : dupB l = dupB m := by
  unfold dupB; congr 1; rw [Bool.eq_iff_iff]; simpa using (h.map _).nodup_iff
theorem dup_sub {l m : List Event} (h : m.Sublist l) (hd : dupB l = false) : dupB m = false := by
  unfold dupB at *
  rw [Bool.not_eq_false', decide_eq_true_eq] at *
  exact hd.sublist (h.map _)
theorem wrongL_perm {n : Nat} {time below : Int} {l m : List Event} (h : l.Perm m) : wrongL n time below l = wrongL n time below m := by
  unfold wrongL
  have h1 : (∀ x ∈ l, time ≤ x.key.at_ ∧ x.key.at_ < below) ↔ (∀ x ∈ m, time ≤ x.key.at_ ∧ x.key.at_ < below) := ⟨fun g x hx => g x (h.mem_iff.2 hx), fun g x hx => g x (h.mem_iff.1 hx)⟩
  have h2 : (∀ x ∈ l, 0 ≤ x.dst ∧ x.dst < n) ↔ (∀ x ∈ m, 0 ≤ x.dst ∧ x.dst < n) := ⟨fun g x hx => g x (h.mem_iff.2 hx), fun g x hx => g x (h.mem_iff.1 hx)⟩
  simp only [h1, h2, dup_perm h]
structure Fine (n : Nat) (time below : Int) (l : List Event) : Prop where
  ord : time ≤ below
  top : below ≤ 1073741825
  times : ∀ x ∈ l, time ≤ x.key.at_ ∧ x.key.at_ < below
  dsts : ∀ x ∈ l, 0 ≤ x.dst ∧ x.dst < n
  once : dupB l = false
theorem wrongL_fine {n : Nat} {time below : Int} {l : List Event} : wrongL n time below l = 0 ↔ Fine n time below l := by
  constructor
  · intro h
    unfold wrongL at h
    have h1 : ¬ (below < time ∨ 1073741825 < below) := fun g => by rw [if_pos g] at h; cases h
    rw [if_neg h1] at h
    have h2 : ∀ x ∈ l, time ≤ x.key.at_ ∧ x.key.at_ < below := Classical.byContradiction fun g => by rw [if_pos g] at h; cases h
    rw [if_neg (fun g => g h2)] at h
    have h3 : ∀ x ∈ l, 0 ≤ x.dst ∧ x.dst < n := Classical.byContradiction fun g => by rw [if_pos g] at h; cases h
    rw [if_neg (fun g => g h3)] at h
    have h4 : dupB l = false := by
      cases hd : dupB l with
      | false => rfl
      | true => rw [hd, if_pos rfl] at h; cases h
    exact ⟨by omega, by omega, h2, h3, h4⟩
  · intro ⟨h1, h2, h3, h4, h5⟩
    unfold wrongL
    rw [if_neg (by omega), if_neg (fun g => g h3), if_neg (fun g => g h4), if_neg (by rw [h5]; simp)]
theorem dup_yes {l : List Event} {i j : Nat} {x y : Event} (hx : l[i]? = some x) (hy : l[j]? = some y) (hij : i ≠ j) (hk : x.key = y.key) (hd : x.dst = y.dst) : dupB l = true := by
  unfold dupB
  rw [Bool.not_eq_true', decide_eq_false_iff_not]
  intro hn
  have e1 : (l.map fun x => (x.key, x.dst))[i]? = some (x.key, x.dst) := by simp [hx]
  have e2 : (l.map fun x => (x.key, x.dst))[j]? = some (x.key, x.dst) := by simp [hy, hk, hd]
  obtain ⟨a1, a2⟩ := List.getElem?_eq_some_iff.1 e1
  obtain ⟨b1, b2⟩ := List.getElem?_eq_some_iff.1 e2
  exact hij ((List.getElem_inj hn).1 (a2.trans b2.symm))
theorem key_ext {k l : Key} (h1 : k.at_ = l.at_) (h2 : k.src = l.src) (h3 : k.sent = l.sent) (h4 : k.no = l.no) : k = l := by
  obtain ⟨a, b, c, d⟩ := k; obtain ⟨a', b', c', d'⟩ := l; simp only at h1 h2 h3 h4; subst h1; subst h2; subst h3; subst h4; rfl
theorem up_mid {x y z : Event} (h1 : ¬ evLt y x) (h2 : ¬ evLt z y) (hk : x.key = z.key) (hd : x.dst = z.dst) : x.key = y.key ∧ x.dst = y.dst := by
  have e1 : x.key.at_ = z.key.at_ := by rw [hk]
  have e2 : x.key.src = z.key.src := by rw [hk]
  have e3 : x.key.sent = z.key.sent := by rw [hk]
  have e4 : x.key.no = z.key.no := by rw [hk]
  unfold evLt at h1 h2
  have g1 : x.key.at_ = y.key.at_ := by omega
  have g2 : x.key.src = y.key.src := by omega
  have g3 : x.key.sent = y.key.sent := by omega
  have g4 : x.key.no = y.key.no := by omega
  exact ⟨key_ext g1 g2 g3 g4, by omega⟩
theorem nodup_adj : ∀ {s : List Event}, UpT s → (∀ (q : Nat) x y, s[q]? = some x → s[q + 1]? = some y → ¬ (x.key = y.key ∧ x.dst = y.dst)) → (s.map fun x => (x.key, x.dst)).Nodup
  | [], _, _ => List.nodup_nil
  | [x], _, _ => by simp
  | x :: y :: s, hp, hq => by
    have ih := nodup_adj (s := y :: s) (List.pairwise_cons.1 hp).2 (fun q a b ha hb => hq (q + 1) a b (by simpa using ha) (by simpa using hb))
    rw [List.map_cons, List.nodup_cons]
    refine ⟨fun hm => ?_, ih⟩
    obtain ⟨z, hz, e⟩ := List.mem_map.1 hm
    simp only [Prod.mk.injEq] at e
    have h1 := (List.pairwise_cons.1 hp).1 y (by simp)
    have h2 : ¬ evLt z y := by
      rcases List.mem_cons.1 hz with rfl | hz
      · exact evLt_irrefl _
      · exact (List.pairwise_cons.1 (List.pairwise_cons.1 hp).2).1 z hz
    exact hq 0 x y rfl rfl (up_mid h1 h2 e.1.symm e.2.symm)
theorem dup_no {l : List Event} (hu : UpT l) (h : ∀ (q : Nat) x y, l[q]? = some x → l[q + 1]? = some y → ¬ (x.key = y.key ∧ x.dst = y.dst)) : dupB l = false := by
  unfold dupB
  rw [Bool.not_eq_false', decide_eq_true_eq]
  exact nodup_adj hu h
/-- The events of a time, that go to a process. -/
def toldL (l : List Event) (lp : Int) : List Event := l.filter fun x => decide (x.dst = lp)
def stAt (ss : List State) (lp : Int) : State := (ss[lp.toNat]?).getD ⟨0, 0, 0, 0⟩
def lpL (c : Cfg) (at_ : Int) (l : List Event) (p : List State × List BatE) (lp : Nat) : List State × List BatE :=
  if (toldL l lp).length = 0 then p else
    (p.1.set lp (batchC c lp (stAt p.1 lp) (toldL l lp)).1, p.2 ++ [⟨at_, lp, toldL l lp, (batchC c lp (stAt p.1 lp) (toldL l lp)).1, (batchC c lp (stAt p.1 lp) (toldL l lp)).2⟩])
/-- The batches of one time. -/
def runL (c : Cfg) (at_ : Int) (l : List Event) (ss : List State) : List State × List BatE := (List.range c.lps.length).foldl (lpL c at_ l) (ss, [])
def sameT (a : Int) (x : Event) : Bool := decide (x.key.at_ = a)
/-- Events in order, parted by their times. -/
def groups : Nat → List Event → List (Int × List Event)
  | 0, _ => []
  | _ + 1, [] => []
  | k + 1, x :: l => (x.key.at_, x :: l.takeWhile (sameT x.key.at_)) :: groups k (l.dropWhile (sameT x.key.at_))
def runs (c : Cfg) : List (Int × List Event) → List State → List State × List BatE
  | [], ss => (ss, [])
  | g :: gs, ss => ((runs c gs (runL c g.1 g.2 ss).1).1, (runL c g.1 g.2 ss).2 ++ (runs c gs (runL c g.1 g.2 ss).1).2)
def timesL (c : Cfg) (l : List Event) (ss : List State) : List State × List BatE := runs c (groups l.length l) ss
structure LogE where
  ss : List State
  time : Int
  done : List BatE
def newL (c : Cfg) : LogE := ⟨c.lps.map (·.first), 0, []⟩
def comL (c : Cfg) (g : LogE) (below : Int) (l : List Event) : LogE := ⟨(timesL c (sortT l) g.ss).1, below, g.done ++ (timesL c (sortT l) g.ss).2⟩
theorem drop_len (p : Event → Bool) (l : List Event) : (l.dropWhile p).length ≤ l.length := (List.dropWhile_sublist p).length_le
theorem groups_fuel : ∀ (k k' : Nat) (l : List Event), l.length ≤ k → l.length ≤ k' → groups k l = groups k' l
  | 0, 0, _, _, _ => rfl
  | 0, k' + 1, l, h, _ => by obtain rfl := List.eq_nil_of_length_eq_zero (Nat.le_zero.1 h); rfl
  | k + 1, 0, l, _, h => by obtain rfl := List.eq_nil_of_length_eq_zero (Nat.le_zero.1 h); rfl
  | k + 1, k' + 1, [], _, _ => rfl
  | k + 1, k' + 1, x :: l, h, h' => by
    have := drop_len (sameT x.key.at_) l
    simp only [List.length_cons] at h h'
    simp only [groups]
    rw [groups_fuel k k' _ (by omega) (by omega)]
theorem timesL_nil (c : Cfg) (ss : List State) : timesL c [] ss = (ss, []) := rfl
theorem timesL_cons (c : Cfg) (x : Event) (l : List Event) (ss : List State) :
    timesL c (x :: l) ss = ((timesL c (l.dropWhile (sameT x.key.at_)) (runL c x.key.at_ (x :: l.takeWhile (sameT x.key.at_)) ss).1).1,
      (runL c x.key.at_ (x :: l.takeWhile (sameT x.key.at_)) ss).2 ++ (timesL c (l.dropWhile (sameT x.key.at_)) (runL c x.key.at_ (x :: l.takeWhile (sameT x.key.at_)) ss).1).2) := by
  unfold timesL
  simp only [List.length_cons, groups, runs]
  rw [groups_fuel l.length (l.dropWhile (sameT x.key.at_)).length _ (drop_len _ _) (Nat.le_refl _)]
/-- A state is turned by a batch. -/
def setst (ss : List State) (b : BatE) : List State := ss.set b.lp.toNat b.thn
/-- Batches, one behind the other, from states on. -/
structure BRuns (c : Cfg) (ss : List State) (bs : List BatE) (ss' : List State) : Prop where
  fin : bs.foldl setst ss = ss'
  each : ∀ (k : Nat) (b : BatE), bs[k]? = some b → 0 ≤ b.lp ∧ b.lp < c.lps.length ∧ 0 < b.ins.length ∧ (∀ x ∈ b.ins, x.dst = b.lp ∧ x.key.at_ = b.at_) ∧ UpT b.ins ∧
    batchC c b.lp (stAt ((bs.take k).foldl setst ss) b.lp) b.ins = (b.thn, b.sent)
theorem BRuns.nil (c : Cfg) (ss : List State) : BRuns c ss [] ss := ⟨rfl, fun k b h => by simp at h⟩
theorem BRuns.append {c : Cfg} {ss ss1 ss2 : List State} {bs bs' : List BatE} (h : BRuns c ss bs ss1) (h' : BRuns c ss1 bs' ss2) : BRuns c ss (bs ++ bs') ss2 := by
  refine ⟨by rw [List.foldl_append, h.fin, h'.fin], fun k b hk => ?_⟩
  by_cases hl : k < bs.length
  · rw [List.getElem?_append_left hl] at hk
    rw [List.take_append_of_le_length (by omega)]
    exact h.each k b hk
  · rw [List.getElem?_append_right (by omega)] at hk
    have := h'.each _ b hk
    rw [List.take_append, List.take_of_length_le (by omega), List.foldl_append, h.fin]
    exact this
theorem told_mem {l : List Event} {lp : Int} {x : Event} : x ∈ toldL l lp ↔ x ∈ l ∧ x.dst = lp := by unfold toldL; rw [List.mem_filter, decide_eq_true_eq]
theorem told_sub (l : List Event) (lp : Int) : (toldL l lp).Sublist l := List.filter_sublist
/-- What was done of one time up to a process. -/
def lpsL (c : Cfg) (at_ : Int) (l : List Event) (ss : List State) (j : Nat) : List State × List BatE := (List.range j).foldl (lpL c at_ l) (ss, [])
theorem lps_succ (c : Cfg) (at_ : Int) (l : List Event) (ss : List State) (j : Nat) : lpsL c at_ l ss (j + 1) = lpL c at_ l (lpsL c at_ l ss j) j := by
  unfold lpsL; rw [List.range_succ, List.foldl_append]; rfl
theorem lps_runs (c : Cfg) (at_ : Int) (l : List Event) (ss : List State) (hl : ∀ x ∈ l, x.key.at_ = at_) (hu : UpT l) : ∀ j, j ≤ c.lps.length →
    BRuns c ss (lpsL c at_ l ss j).2 (lpsL c at_ l ss j).1 ∧ (∀ b ∈ (lpsL c at_ l ss j).2, b.at_ = at_ ∧ b.lp < j) ∧ (lpsL c at_ l ss j).2.Pairwise (fun a b => a.lp < b.lp) ∧
    ((lpsL c at_ l ss j).2.flatMap (·.ins)).Perm (l.filter fun x : Event => decide (0 ≤ x.dst ∧ x.dst < (j : Int)))
  | 0, _ => ⟨BRuns.nil _ _, by simp [lpsL], by simp [lpsL], by
    have : (l.filter fun x : Event => decide (0 ≤ x.dst ∧ x.dst < ((0 : Nat) : Int))) = [] := by
      rw [List.filter_eq_nil_iff]; intro x _; simp
    rw [this]; exact .refl _⟩
  | j + 1, hj => by
    obtain ⟨h1, h2, h3, h4⟩ := lps_runs c at_ l ss hl hu j (by omega)
    rw [lps_succ]
    have hsplit : (l.filter fun x : Event => decide (0 ≤ x.dst ∧ x.dst < ((j + 1 : Nat) : Int))).Perm ((l.filter fun x : Event => decide (0 ≤ x.dst ∧ x.dst < (j : Int))) ++ toldL l j) := by
      unfold toldL
      clear h1 h2 h3 h4 hl hu
      induction l with
      | nil => exact .refl _
      | cons x l ih =>
        by_cases e1 : x.dst = j
        · rw [List.filter_cons_of_pos (by simp; omega), List.filter_cons_of_neg (by simp; omega), List.filter_cons_of_pos (by simp [e1])]
          exact (ih.cons x).trans List.perm_middle.symm
        · by_cases e2 : 0 ≤ x.dst ∧ x.dst < (j : Int)
          · rw [List.filter_cons_of_pos (by simp; omega), List.filter_cons_of_pos (by simp; omega), List.filter_cons_of_neg (by simp [e1])]
            exact ih.cons x
          · rw [List.filter_cons_of_neg (by simp; omega), List.filter_cons_of_neg (by simp; omega), List.filter_cons_of_neg (by simp [e1])]
            exact ih
    unfold lpL
    split
    · rename_i h0
      have h0 := List.eq_nil_of_length_eq_zero h0
      rw [h0, List.append_nil] at hsplit
      exact ⟨h1, fun b hb => ⟨(h2 b hb).1, by have := (h2 b hb).2; omega⟩, h3, h4.trans hsplit.symm⟩
    · rename_i h0
      refine ⟨h1.append ⟨by simp [setst], fun k b hk => ?_⟩, fun b hb => ?_, ?_, ?_⟩
      · cases k with
        | zero =>
          simp only [List.getElem?_cons_zero, Option.some.injEq] at hk
          subst hk
          exact ⟨by simp only; omega, by simp only; omega, by simp only; omega, fun x hx => ⟨(told_mem.1 hx).2, hl x (told_mem.1 hx).1⟩, hu.sublist (told_sub _ _), rfl⟩
        | succ k => simp at hk
      · rcases List.mem_append.1 hb with hb | hb
        · exact ⟨(h2 b hb).1, by have := (h2 b hb).2; omega⟩
        · rw [List.mem_singleton] at hb; subst hb; exact ⟨rfl, by simp only; omega⟩
      · refine List.pairwise_append.2 ⟨h3, by simp, fun a ha b hb => ?_⟩
        rw [List.mem_singleton] at hb; subst hb
        exact (h2 a ha).2
      · rw [List.flatMap_append]
        refine List.Perm.trans ?_ hsplit.symm
        simpa using h4.append_right _
theorem run_runs (c : Cfg) (at_ : Int) (l : List Event) (ss : List State) (hl : ∀ x ∈ l, x.key.at_ = at_) (hu : UpT l) (hd : ∀ x ∈ l, 0 ≤ x.dst ∧ x.dst < c.lps.length) :
    BRuns c ss (runL c at_ l ss).2 (runL c at_ l ss).1 ∧ (∀ b ∈ (runL c at_ l ss).2, b.at_ = at_) ∧ (runL c at_ l ss).2.Pairwise (fun a b => a.lp < b.lp) ∧ ((runL c at_ l ss).2.flatMap (·.ins)).Perm l := by
  obtain ⟨h1, h2, h3, h4⟩ := lps_runs c at_ l ss hl hu c.lps.length (Nat.le_refl _)
  refine ⟨h1, fun b hb => (h2 b hb).1, h3, ?_⟩
  rw [List.filter_eq_self.2 (fun x hx => by simp; exact hd x hx)] at h4
  exact h4
def BefE (a b : BatE) : Prop := a.at_ < b.at_ ∨ (a.at_ = b.at_ ∧ a.lp < b.lp)
theorem up_at {x y : Event} (h : ¬ evLt y x) : x.key.at_ ≤ y.key.at_ := by unfold evLt at h; omega
theorem times_runs (c : Cfg) : ∀ (n : Nat) (l : List Event) (ss : List State), l.length ≤ n → UpT l → (∀ x ∈ l, 0 ≤ x.dst ∧ x.dst < c.lps.length) →
    BRuns c ss (timesL c l ss).2 (timesL c l ss).1 ∧ (∀ b ∈ (timesL c l ss).2, ∃ x ∈ l, b.at_ = x.key.at_) ∧ (timesL c l ss).2.Pairwise BefE ∧ ((timesL c l ss).2.flatMap (·.ins)).Perm l
  | n, [], ss, _, _, _ => ⟨BRuns.nil _ _, by simp [timesL_nil], by simp [timesL_nil], .refl _⟩
  | 0, x :: l, _, h, _, _ => by simp at h
  | n + 1, x :: l, ss, hn, hu, hd => by
    have hu' := List.pairwise_cons.1 hu
    rw [timesL_cons]
    generalize hq : runL c x.key.at_ (x :: l.takeWhile (sameT x.key.at_)) ss = q
    have hsub : (x :: l.takeWhile (sameT x.key.at_)).Sublist (x :: l) := (List.takeWhile_sublist _).cons_cons _
    obtain ⟨h1, h2, h3, h4⟩ := run_runs c x.key.at_ (x :: l.takeWhile (sameT x.key.at_)) ss (fun y hy => by
      rcases List.mem_cons.1 hy with rfl | hy
      · rfl
      · have := (twh_mem _ l y hy).1; simpa [sameT] using this) (hu.sublist hsub) (fun y hy => hd y (hsub.subset hy))
    rw [hq] at h1 h2 h3 h4
    have hds : (l.dropWhile (sameT x.key.at_)).Sublist l := List.dropWhile_sublist _
    have hdl := drop_len (sameT x.key.at_) l
    simp only [List.length_cons] at hn
    obtain ⟨g1, g2, g3, g4⟩ := times_runs c n (l.dropWhile (sameT x.key.at_)) q.1 (by omega) (hu'.2.sublist hds) (fun y hy => hd y (List.mem_cons_of_mem _ (hds.subset hy)))
    have hlate : ∀ y ∈ l.dropWhile (sameT x.key.at_), x.key.at_ < y.key.at_ := by
      have key : ∀ m : List Event, UpT m → (∀ y ∈ m, x.key.at_ ≤ y.key.at_) → ∀ y ∈ m.dropWhile (sameT x.key.at_), x.key.at_ < y.key.at_ := by
        intro m
        induction m with
        | nil => intro _ _ y hy; simp at hy
        | cons z m ih =>
          intro hm hx y hy
          have hm' := List.pairwise_cons.1 hm
          rw [List.dropWhile_cons] at hy
          split at hy
          · exact ih hm'.2 (fun y hy => hx y (List.mem_cons_of_mem _ hy)) y hy
          · rename_i hz
            simp only [sameT, decide_eq_true_eq] at hz
            have h0 := hx z (by simp)
            rcases List.mem_cons.1 hy with rfl | hy
            · omega
            · have := up_at (hm'.1 y hy); omega
      exact key l hu'.2 (fun y hy => up_at (hu'.1 y hy))
    refine ⟨h1.append g1, fun b hb => ?_, ?_, ?_⟩
    · rcases List.mem_append.1 hb with hb | hb
      · exact ⟨x, by simp, h2 b hb⟩
      · obtain ⟨y, hy, e⟩ := g2 b hb
        exact ⟨y, List.mem_cons_of_mem _ (hds.subset hy), e⟩
    · refine List.pairwise_append.2 ⟨?_, g3, fun a ha b hb => ?_⟩
      · refine (List.Pairwise.and_mem.1 h3).imp fun {a b} h => .inr ⟨?_, h.2.2⟩
        rw [h2 a h.1, h2 b h.2.1]
      · obtain ⟨y, hy, e⟩ := g2 b hb
        have := hlate y hy
        have := h2 a ha
        exact .inl (by omega)
    · rw [List.flatMap_append]
      refine (h4.append g4).trans ?_
      rw [List.cons_append, List.takeWhile_append_dropWhile]
theorem flat_sub : ∀ {bs : List BatE} {b : BatE}, b ∈ bs → b.ins.Sublist (bs.flatMap (·.ins))
  | [], _, hb => by simp at hb
  | a :: bs, b, hb => by
    rw [List.flatMap_cons]
    rcases List.mem_cons.1 hb with rfl | hb
    · exact List.sublist_append_left _ _
    · exact (flat_sub hb).trans (List.sublist_append_right _ _)
theorem twice_of_dup {m : List Event} {lp : Int} (hnd : dupB m = false) (h4 : ∀ x ∈ m, x.dst = lp) : twiceB m = false := by
  unfold twiceB
  unfold dupB at hnd
  rw [Bool.not_eq_false', decide_eq_true_eq] at *
  induction m with
  | nil => exact List.nodup_nil
  | cons x m ih =>
    rw [List.map_cons, List.nodup_cons] at *
    refine ⟨fun hm => hnd.1 ?_, ih hnd.2 (fun y hy => h4 y (List.mem_cons_of_mem _ hy))⟩
    obtain ⟨y, hy, e⟩ := List.mem_map.1 hm
    exact List.mem_map.2 ⟨y, hy, by rw [e, h4 x (by simp), h4 y (List.mem_cons_of_mem _ hy)]⟩
/-- What a rule makes of events. -/
def ruleC (c : Cfg) (lp : Int) (s : State) (l : List Event) : State × List Event :=
  if wrongE c.lps.length lp (once (sortT l)) = 0 then batchC c lp s (once (sortT l)) else (s, [])
end Go.Proofs.YtjmecncebdbhdaaDoor
/- A slice that is owned is cut; its last element cleared. Over any program. -/
namespace Go.Proofs.YtjmecncebdbhdaaDoor.Mem
open Go Go.RowKit Reg
section
variable {P : Program} {ops : Array Oper} {rest : List Oper} {a : Act} {Q : Exit → Act → World → Prop} {d : Option Tmp} {tt : TypeId} {p : String} {af : Array Edge} {gd : Option (Nat × Bool)} {x y : Operand}
variable {G : Nat → Prop} {w0 w w' : World} {L : List Asn}
/-- 's[l:]', as a value. -/
theorem wps_tail {T E : TypeId} {k R n c l m : Nat} {lo : Operand} (hT : P.underlying T = some (.slice E)) (hE : ∀ w, (sizeOf E).run P w = .ok k w) (hx : a.eval x = .slice (some ⟨R, 0, none⟩) n c) (hlo : a.eval lo = .int .i64 l) (hm : n = l + m) (h1 : 0 < m) (h2 : n ≤ c)
    (next : wpList P ops Q rest (a.put d (.slice (some ⟨R, l * k, none⟩) m (c - l))) w) (hgd : gOk gd ops a = true := by with_unfolding_all rfl) :
    wpList P ops Q ({ dst := d, op := .slice T x (some lo) none none, type := tt, pos := p, after := af, guard := gd } :: rest) a w :=
  wpList_ok hgd fun K hK => by
    have hr := run_sliceAt_sl (P := P) (w := w) hT (hE w) (some ⟨R, 0, none⟩) n c l n (some (.int .i64 l)) none (.inr rfl) (.inl ⟨rfl, rfl⟩) (by omega) h2
    rw [if_neg (by omega), show n - l = m by omega] at hr
    simp only [Option.map_some, add_none, Nat.zero_add] at hr
    unfold Oper.wp execOp
    simp only [Option.map_none, Option.map_some, hx, hlo, hr, Sem.run_bind, Sem.run_pure, Result.andThen_ok]
    exact hK _ _ next
/-- 's[:u]', in its place. -/
theorem wps_cutown {α : Type} {T E : TypeId} {enc : α → List Value} {k R n c u : Nat} {hi' : Operand} {xs : List α} (hk : ∀ x, (enc x).length = k) (hT : P.underlying T = some (.slice E)) (hE : ∀ w, (sizeOf E).run P w = .ok k w) (S : St G w0 w L) (i : Nat)
    (hi : L[i]? = some (Own E enc k (.slice (some ⟨R, 0, none⟩) n c) xs)) (hx : a.eval x = .slice (some ⟨R, 0, none⟩) n c) (hu : a.eval hi' = .int .i64 u) (h1 : u ≤ xs.length)
    (next : St G w0 w (L.set i (Own E enc k (.slice (some ⟨R, 0, none⟩) u c) (xs.take u))) → wpList P ops Q rest (a.put d (.slice (some ⟨R, 0, none⟩) u c)) w) (hgd : gOk gd ops a = true := by with_unfolding_all rfl) :
    wpList P ops Q ({ dst := d, op := .slice T x none (some hi') none, type := tt, pos := p, after := af, guard := gd } :: rest) a w :=
  wpList_ok hgd fun K hK => by
    obtain ⟨F0, hF0⟩ := S.get hi
    obtain ⟨cur, hO, hn⟩ := own_at hF0
    have hle := hO.le
    have hr := run_sliceAt_sl (P := P) (w := w) hT (hE w) (some ⟨R, 0, none⟩) n c 0 u none (some (.int .i64 u)) (.inl ⟨rfl, rfl⟩) (.inr rfl) (Nat.zero_le _) (by omega)
    have e : (if c = 0 then (some ⟨R, 0, none⟩ : Option Addr) else (some ⟨R, 0, none⟩ : Option Addr).map (·.add (0 * k))) = some ⟨R, 0, none⟩ := by simp [add_none]
    rw [e, Nat.sub_zero, Nat.sub_zero] at hr
    unfold Oper.wp execOp
    simp only [Option.map_none, Option.map_some, hx, hu, hr, Sem.run_bind, Sem.run_pure, Result.andThen_ok]
    refine hK _ _ (next (S.weak hi (fun _ => rfl) fun F hF => ⟨F, fun _ hb => hb, ?_, fun x => by rw [hF.2 x]; rfl⟩))
    obtain ⟨cur, hO, hn⟩ := own_at hF
    have := (hO.cut hk u h1).own hk
    rwa [show (xs.take u).length = u by rw [List.length_take]; omega] at this
end
end Go.Proofs.YtjmecncebdbhdaaDoor.Mem
/- The tail of a slice that is owned is cleared. Over any program. -/
namespace Go.Proofs.YtjmecncebdbhdaaDoor.Mem
open Go Go.RowKit Reg
section
variable {P : Program} {ops : Array Oper} {rest : List Oper} {a : Act} {Q : Exit → Act → World → Prop} {d : Option Tmp} {tt : TypeId} {p : String} {af : Array Edge} {gd : Option (Nat × Bool)} {x y : Operand}
variable {G : Nat → Prop} {w0 w w' : World} {L : List Asn}
theorem zeroCells_rep {α : Type} {enc : α → List Value} {k : Nat} {z : Value} {x0 : α} (hk : ∀ x, (enc x).length = k) (hz : z.cells.toList = enc x0) (n : Nat) : (Builtin.zeroCells z.cells n).toList = flatE enc (List.replicate n x0) := by
  have hs : z.cells.size = k := by rw [← hk x0, ← hz]; simp
  have := made_rep (z := z) hk hz n
  rw [← this]
  unfold Builtin.zeroCells madeCells
  rw [hs]
theorem wps_clearTail {α : Type} {T E : TypeId} {enc : α → List Value} {k bytes R n c c' m q : Nat} {xs : List α} (el : Elem P T E k bytes) (hk : ∀ x, (enc x).length = k) (hone : ∀ x, ∀ u ∈ enc x, u.oneCell' = true) (z0 : α) (hz : zeroIs P E k (enc z0)) (S : St G w0 w L) (i : Nat)
    (hi : L[i]? = some (Own E enc k (.slice (some ⟨R, 0, none⟩) n c) xs)) (o : Nat) (hx : a.eval x = .slice (some ⟨R, o, none⟩) q c') (ho : o = m * k) (hm : xs.length = m + q) (h0 : 0 < q)
    (next : ∀ w', St G w0 w' (L.set i (Own E enc k (.slice (some ⟨R, 0, none⟩) n c) (xs.take m ++ List.replicate q z0))) → wpList P ops Q rest (a.put d (.tuple #[])) w') (hgd : gOk gd ops a = true := by with_unfolding_all rfl) :
    wpList P ops Q ({ dst := d, op := .call { callee := .builtin .clear, args := #[x], argTypes := #[T] }, type := tt, pos := p, after := af, guard := gd } :: rest) a w :=
  wpList_ok hgd fun K hK => by
    obtain ⟨q, rfl⟩ : ∃ q', q = q' + 1 := ⟨q - 1, by omega⟩
    obtain ⟨F, hF⟩ := S.get hi
    obtain ⟨cur, hO, hn⟩ := own_at hF
    obtain ⟨ei, z, h⟩ := el
    obtain ⟨i', z', g1, g2, g3, g4, g5⟩ := hz
    have e1 : ei = i' := by have := h.info; rw [g1] at this; exact (Option.some.inj this).symm
    subst e1
    have e2 : z = z' := by have := h.zero; rw [g2] at this; exact (Option.some.inj this).symm
    subst e2
    have hzl : (Builtin.zeroCells z.cells (q + 1)).toList = flatE enc (List.replicate (q + 1) z0) := zeroCells_rep hk g4 _
    have hfl : (flatE enc (List.replicate (q + 1) z0)).length = (q + 1) * k := by rw [flatE_length hk, List.length_replicate]
    have hsize : m * k + (q + 1) * k ≤ cur.size := by
      have h3 := hO.le
      rw [hO.size, ← Nat.add_mul, ← hm]
      exact Nat.mul_le_mul_right k h3
    have h1 : ∀ v ∈ flatE enc (List.replicate (q + 1) z0), v.oneCell' = true := fun v hv => by
      obtain ⟨y, _, hy⟩ := List.mem_flatMap.1 hv
      exact hone y v hy
    obtain ⟨ht, hi2, hz2, hs, hby, hzs, hpos⟩ := h
    have hst := run_storeCells_at P R o E (flatE enc (List.replicate (q + 1) z0)) 0 cur w hO.heap (by rw [hfl, ho]; omega) h1
    simp only [Nat.add_zero] at hst
    have hr : (Builtin.clear_ #[T] tt #[.slice (some ⟨R, o, none⟩) (q + 1) c']).run P w = .ok (.tuple #[]) (w.setRow R (splice cur o (flatE enc (List.replicate (q + 1) z0)))) := by
      simp only [Builtin.clear_, List.getElem?_toArray, List.getElem?_cons_zero, Sem.run_bind, run_underlying ht, Result.andThen_ok, zeroValue, typeInfo, run_program, hi2, hz2, hzl, hst, Sem.run_pure]
      rfl
    unfold Oper.wp execOp
    simp [resolve, invoke, builtin, hx, hr, Result.andThen]
    refine hK _ _ (next _ (S.step hi rfl fun F hF => ?_))
    refine ⟨F, setRow_keep.mono (fun x _ h e => h ((hF.2 x).2 (by simp [Value.ownBlock, e]))), ⟨?_, fun x => by rw [hF.2 x]⟩, fun _ h => .inl h⟩
    have hl : (xs.take m ++ List.replicate (q + 1) z0).length = n := by rw [List.length_append, List.length_take, List.length_replicate, hn]; omega
    have hln : n = m + (q + 1) := by rw [hn]; exact hm
    have hnew : OwnAt E enc k 0 (w.setRow R (splice cur o (flatE enc (List.replicate (q + 1) z0)))) R c (splice cur o (flatE enc (List.replicate (q + 1) z0))) (xs.take m ++ List.replicate (q + 1) z0) := by
      refine ⟨setRow_heap w R _ _ E _ hO.heap, hO.lo, by rw [hl, hn]; exact hO.le, hO.max, by rw [splice_size (by rw [hfl, ho]; exact hsize)]; exact hO.size, ?_⟩
      have ht2 := (hO.cut hk m (by omega)).take
      rw [show (xs.take m).length = m by rw [List.length_take]; omega] at ht2
      unfold splice
      rw [hl, hln, flatE_append, ← ht2, ho]
      have hcl : (cur.toList.take (m * k)).length = m * k := by rw [List.length_take, Array.length_toList]; omega
      simp only [List.append_assoc]
      rw [← List.append_assoc]
      refine List.take_left' ?_
      rw [List.length_append, hcl, hfl, ← Nat.add_mul]
    have := hnew.own hk
    rwa [hl] at this
end
end Go.Proofs.YtjmecncebdbhdaaDoor.Mem
/- Things put in another order; several slices and several more. Over any program. -/
namespace Go.Proofs.YtjmecncebdbhdaaDoor.Mem
open Go Go.RowKit

theorem St.swap2 {G : Nat → Prop} {w0 w : World} {L : List Asn} {A B : Asn} (S : St G w0 w (A :: B :: L)) : St G w0 w (B :: A :: L) := by
  obtain ⟨Fs, hf, hd⟩ := S.ex
  have g : ∀ i : Nat, ∀ X : Asn, (B :: A :: L)[i]? = some X → (A :: B :: L)[(match i with | 0 => 1 | 1 => 0 | i + 2 => i + 2 : Nat)]? = some X := by
    intro i X h
    match i with
    | 0 => exact h
    | 1 => exact h
    | i + 2 => exact h
  refine ⟨S.keep, fun i => Fs (match i with | 0 => 1 | 1 => 0 | i + 2 => i + 2 : Nat), fun i X hi => hf _ X (g i X hi), fun i j X Y hij hi hj => ?_⟩
  have hi' := g i X hi
  have hj' := g j Y hj
  match i, j, hij with
  | 0, 1, _ =>
    rcases hd 0 1 Y X (by omega) hj' hi' with ⟨e1, e2⟩ | e
    · exact .inl ⟨e2, e1⟩
    · exact .inr fun x hx hx' => e x hx' hx
  | 0, j + 2, _ => exact hd 1 (j + 2) X Y (by omega) hi' hj'
  | 1, j + 2, _ => exact hd 0 (j + 2) X Y (by omega) hi' hj'
  | i + 2, j + 2, h => exact hd (i + 2) (j + 2) X Y (by omega) hi' hj'
  | 0, 0, h => omega
  | i + 1, 0, h => omega
  | i + 1, 1, h => omega
section
variable {G : Nat → Prop} {w0 w w' : World} {L : List Asn} {A A' B C : Asn} {i : Nat}
/-- Several slices, and several more. -/
theorem St.slsAppend {α : Type} {enc : α → List Value} {k : Nat} {vs vs' : List Value} {xss xss' : List (List α)} (S : St G w0 w (Sls false enc k vs xss :: Sls false enc k vs' xss' :: L)) : St G w0 w (Sls false enc k (vs ++ vs') (xss ++ xss') :: L) :=
  S.merge _ rfl rfl rfl fun F F' h h' => by
    refine ⟨⟨by simp [h'.1.1, h.1.1], fun j u ys hu hy => ?_⟩, fun b hb => hb.elim (h.2 b) (h'.2 b)⟩
    by_cases hj : j < vs.length
    · rw [List.getElem?_append_left hj] at hu
      rw [List.getElem?_append_left (by rw [← h.1.1]; exact hj)] at hy
      exact (h.1.2 j u ys hu hy).mono fun _ => .inl
    · rw [List.getElem?_append_right (by omega)] at hu
      rw [List.getElem?_append_right (by have := h.1.1; omega)] at hy
      rw [← h.1.1] at hy
      exact (h'.1.2 _ u ys hu hy).mono fun _ => .inr
end
end Go.Proofs.YtjmecncebdbhdaaDoor.Mem
/- A batch with where its slices lie. -/
namespace Go.Proofs.YtjmecncebdbhdaaDoor
open Go Go.RowKit Reg Mem

theorem own_hd {α : Type} {E : TypeId} {enc : α → List Value} {k : Nat} {v : Value} {xs : List α} {G : Nat → Prop} {w0 w : World} {L : List Asn} (i : Nat) (S : St G w0 w L) (hi : L[i]? = some (Own E enc k v xs)) (h0 : 0 < xs.length) : ∃ R c, v = .slice (some ⟨R, 0, none⟩) xs.length c := by
  obtain ⟨F1, h1, _⟩ := S.get hi
  obtain ⟨R, c, cur, e, _⟩ := h1.some (by omega)
  exact ⟨R, c, e⟩
theorem take_snoc {α : Type} {l : List α} {j : Nat} {x : α} (h : l[j]? = some x) : l.take (j + 1) = l.take j ++ [x] := by
  rw [List.take_add_one, h]; rfl
theorem sacells : ∀ e : State, e.cells.length = 4 := fun _ => rfl
theorem saone : ∀ e : State, ∀ u ∈ e.cells, u.oneCell' = true := fun _ => by simp [State.cells, Value.oneCell']
/-- A batch with where its slices lie. -/
structure BatV where
  b : BatE
  ai : Option Addr
  ci : Nat
  ao : Option Addr
  co : Nat
def BatV.vi (x : BatV) : Value := .slice x.ai x.b.ins.length x.ci
def BatV.vo (x : BatV) : Value := .slice x.ao x.b.sent.length x.co
def BatV.cells (x : BatV) : List Value := [.int .i64 x.b.at_, .int .i64 x.b.lp, .slice x.ai x.b.ins.length x.ci, .int .i64 x.b.thn.n0, .int .i64 x.b.thn.n1, .int .i64 x.b.thn.n2, .int .i64 x.b.thn.n3, .slice x.ao x.b.sent.length x.co]
theorem bvcells : ∀ x : BatV, x.cells.length = 8 := fun _ => rfl
theorem bvone : ∀ x : BatV, ∀ u ∈ x.cells, u.oneCell' = true := fun _ => by simp [BatV.cells, Value.oneCell']
set_option maxRecDepth 100000 in
theorem elem_Bat : Elem Tryd.prog 59 77 8 96 := ⟨_, .agg #[.int .i64 0, .int .i64 0, .slice none 0 0, .int .i64 0, .int .i64 0, .int .i64 0, .int .i64 0, .slice none 0 0], Tryd.underlying59, rfl, by kernel_rfl, by kernel_rfl, by kernel_rfl, by kernel_rfl, by omega⟩
end Go.Proofs.YtjmecncebdbhdaaDoor
namespace Go.Proofs.YtjmecncebdbhdaaDoor
open Go Go.Shelf

set_option maxRecDepth 100000
def sortEvs_ren : Go.Shelf.Ren := ⟨fun | 6 => 24 | 14 => 49 | 15 => 50 | 20 => 75 | 21 => 76 | 22 => 77 | 23 => 78 | 24 => 79 | 25 => 80 | 26 => 81 | 27 => 82 | 28 => 83 | 29 => 84 | 46 => 95 | 47 => 96 | 48 => 97 | 49 => 98 | 50 => 99 | 57 => 105 | n => n, fun | 0 => 0 | 1 => 1 | 2 => 2 | 3 => 3 | 4 => 4 | 5 => 5 | 6 => 6 | 7 => 7 | 8 => 8 | 9 => 9 | 10 => 10 | 11 => 11 | 12 => 12 | 13 => 13 | 14 => 14 | 15 => 15 | 16 => 16 | 17 => 17 | 18 => 18 | 19 => 19 | 20 => 20 | 21 => 21 | 22 => 29 | 23 => 78 | 24 => 52 | 25 => 79 | 27 => 131 | 29 => 123 | 37 => 118 | 38 => 119 | 39 => 120 | 42 => 127 | 44 => 142 | 45 => 143 | 46 => 144 | 47 => 145 | 48 => 146 | 49 => 147 | 50 => 148 | 51 => 149 | 52 => 150 | 53 => 151 | 54 => 152 | 55 => 153 | 66 => 163 | 67 => 164 | 68 => 165 | 69 => 166 | 70 => 167 | 71 => 168 | 76 => 179 | 77 => 180 | 78 => 181 | 81 => 182 | 82 => 183 | 83 => 184 | 84 => 185 | 85 => 186 | 86 => 187 | 87 => 62 | 88 => 188 | 89 => 189 | 90 => 190 | 91 => 191 | 92 => 192 | 93 => 193 | 94 => 194 | 95 => 195 | 96 => 196 | n => n, fun n => n⟩
theorem sortEvs : SlLaysF0.n6 Tryd.prog sortEvs_ren := {
  mixed := by kernel_rfl,
  f6 := ⟨Tryd.f24.name, by decide, Tryd.func24.trans (congrArg some (by kernel_rfl))⟩,
  f14 := ⟨Tryd.f49.name, by decide, Tryd.func49.trans (congrArg some (by kernel_rfl))⟩,
  f15 := Tryd.func50.trans (congrArg some (by kernel_rfl)),
  f20 := ⟨Tryd.f75.name, by decide, Tryd.func75.trans (congrArg some (by kernel_rfl))⟩,
  f21 := ⟨Tryd.f76.name, by decide, Tryd.func76.trans (congrArg some (by kernel_rfl))⟩,
  f22 := ⟨Tryd.f77.name, by decide, Tryd.func77.trans (congrArg some (by kernel_rfl))⟩,
  f23 := ⟨Tryd.f78.name, by decide, Tryd.func78.trans (congrArg some (by kernel_rfl))⟩,
  f24 := ⟨Tryd.f79.name, by decide, Tryd.func79.trans (congrArg some (by kernel_rfl))⟩,
  f25 := ⟨Tryd.f80.name, by decide, Tryd.func80.trans (congrArg some (by kernel_rfl))⟩,
  f26 := ⟨Tryd.f81.name, by decide, Tryd.func81.trans (congrArg some (by kernel_rfl))⟩,
  f27 := ⟨Tryd.f82.name, by decide, Tryd.func82.trans (congrArg some (by kernel_rfl))⟩,
  f28 := Tryd.func83.trans (congrArg some (by kernel_rfl)),
  f29 := Tryd.func84.trans (congrArg some (by kernel_rfl)),
  f46 := ⟨Tryd.f95.name, by decide, Tryd.func95.trans (congrArg some (by kernel_rfl))⟩,
  f47 := Tryd.func96.trans (congrArg some (by kernel_rfl)),
  f48 := Tryd.func97.trans (congrArg some (by kernel_rfl)),
  f49 := ⟨Tryd.f98.name, by decide, Tryd.func98.trans (congrArg some (by kernel_rfl))⟩,
  f50 := ⟨Tryd.f99.name, by decide, Tryd.func99.trans (congrArg some (by kernel_rfl))⟩,
  f57 := ⟨Tryd.f105.name, by decide, Tryd.func105.trans (congrArg some (by kernel_rfl))⟩,
  t0 := Tryd.underlying0,
  a0 := Tryd.isAgg0,
  z0 := Tryd.sizeOf0,
  v0 := Tryd.zeroValue0,
  t3 := Tryd.underlying3,
  a3 := Tryd.isAgg3,
  z3 := Tryd.sizeOf3,
  v3 := Tryd.zeroValue3,
  t4 := Tryd.underlying4,
  a4 := Tryd.isAgg4,
  z4 := Tryd.sizeOf4,
  v4 := Tryd.zeroValue4,
  t5 := Tryd.underlying5,
  a5 := Tryd.isAgg5,
  z5 := Tryd.sizeOf5,
  v5 := Tryd.zeroValue5,
  t9 := Tryd.underlying9,
  a9 := Tryd.isAgg9,
  z9 := Tryd.sizeOf9,
  v9 := Tryd.zeroValue9,
  t22 := Tryd.underlying29,
  a22 := Tryd.isAgg29,
  z22 := Tryd.sizeOf29,
  v22 := Tryd.zeroValue29,
  t25 := Tryd.underlying79,
  a25 := Tryd.isAgg79,
  z25 := Tryd.sizeOf79,
  v25 := Tryd.zeroValue79,
  t39 := Tryd.underlying120,
  a39 := Tryd.isAgg120,
  z39 := Tryd.sizeOf120,
  v39 := Tryd.zeroValue120,
  t45 := Tryd.underlying143,
  a45 := Tryd.isAgg143,
  z45 := Tryd.sizeOf143,
  v45 := Tryd.zeroValue143,
  t46 := Tryd.underlying144,
  a46 := Tryd.isAgg144,
  z46 := Tryd.sizeOf144,
  v46 := Tryd.zeroValue144,
  t50 := Tryd.underlying148,
  a50 := Tryd.isAgg148,
  z50 := Tryd.sizeOf148,
  v50 := Tryd.zeroValue148,
  t53 := Tryd.underlying151,
  a53 := Tryd.isAgg151,
  z53 := Tryd.sizeOf151,
  v53 := Tryd.zeroValue151,
  t55 := Tryd.underlying153,
  a55 := Tryd.isAgg153,
  z55 := Tryd.sizeOf153,
  v55 := Tryd.zeroValue153,
  t66 := Tryd.underlying163,
  a66 := Tryd.isAgg163,
  z66 := Tryd.sizeOf163,
  v66 := Tryd.zeroValue163,
  t70 := Tryd.underlying167,
  a70 := Tryd.isAgg167,
  z70 := Tryd.sizeOf167,
  v70 := Tryd.zeroValue167,
  t76 := Tryd.underlying179,
  a76 := Tryd.isAgg179,
  z76 := Tryd.sizeOf179,
  v76 := Tryd.zeroValue179,
  t77 := Tryd.underlying180,
  a77 := Tryd.isAgg180,
  z77 := Tryd.sizeOf180,
  v77 := Tryd.zeroValue180 }
end Go.Proofs.YtjmecncebdbhdaaDoor

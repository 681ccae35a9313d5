import Derived.Test.YtegcghofkbdgiaaDoorR06
import Derived.Test.YtegcghofkbdgiaaDoorR18
import Derived.Test.YtegcghofkbdgiaaDoorR09
import Derived.Test.YtegcghofkbdgiaaDoorR04
import Derived.Test.YtegcghofkbdgiaaDoorProg
import Derived.Shelf.SlLaysF0
import Derived.KernelRfl
/- The walk of inq.Compare: a total order of events. -/
namespace Go.Proofs.YtegcghofkbdgiaaDoor
open Go.RowKit Reg Mem Go.Sort

def Event.tcmp (a b : Event) : Int := if a.key.lt b.key then -1 else if b.key.lt a.key then 1 else orL [icmp a.dst b.dst, icmp a.kind b.kind, icmp a.data b.data]
theorem bef_is {a b : Key} {v : Bool} (h : a.lt b = v) (w : World) : Calls Tryd.prog 52 #[.agg #[.int .i64 a.at_, .int .i64 a.src, .int .i64 a.sent, .int .i64 a.no], .agg #[.int .i64 b.at_, .int .i64 b.src, .int .i64 b.sent, .int .i64 b.no]] w fun e w' => e = .returned (.bool v) ∧ Below w.heap.size w w' := by
  subst h; exact before_calls _ _ _ _ _ _ _ _ _
set_option maxRecDepth 100000 in
set_option maxHeartbeats 4000000 in
theorem icmpare_calls (a b : Event) (w : World) : Calls Tryd.prog 26 #[.agg #[.int .i64 a.key.at_, .int .i64 a.key.src, .int .i64 a.key.sent, .int .i64 a.key.no, .int .i64 a.dst, .int .i64 a.kind, .int .i64 a.data], .agg #[.int .i64 b.key.at_, .int .i64 b.key.src, .int .i64 b.key.sent, .int .i64 b.key.no, .int .i64 b.dst, .int .i64 b.kind, .int .i64 b.data]] w fun e w' => e = .returned (.int .i64 (a.tcmp b)) ∧ Below w.heap.size w w' := by
  have S := St.init (fun _ => False) w
  cases h1 : a.key.lt b.key with
  | true =>
    have H1 := Lib.hid (bef_is h1)
    go_enter Tryd.func26, Tryd.ntmps26
    go_wp2_with first | (go_at_call 52; have hcz := fun w => H1.out w; (with_reducible refine Calls.mono (hcz _) ?_); clear hcz; rintro e wz ⟨rfl, hE⟩; replace S := S.ext (Keep.of_below hE); clear hE) | ((with_reducible refine tot_done ?ht ?_); (case ht => kernel_rfl)) | ((with_reducible apply wps_text S); (case hm => kernel_rfl); (case hB => decide +kernel); clear S; intro wz S) | ((with_reducible apply wps_boxa S); (case hx => rfl); clear S; intro bz wz S) | ((with_reducible apply wps_box1 (v := .int _ _) S); (case hx | h1 => rfl); clear S; intro bz wz S) | ((with_reducible apply wps_box1 (v := .bool _) S); (case hx | h1 => rfl); clear S; intro bz wz S) | ((with_reducible apply wps_box1 (v := .slice _ _ _) S); (case hx | h1 => rfl); clear S; intro bz wz S) | ((with_reducible apply wps_box1 (v := .pointer _) S); (case hx | h1 => rfl); clear S; intro bz wz S) | ((with_reducible apply wps_box1 (v := .map _) S); (case hx | h1 => rfl); clear S; intro bz wz S) | ((with_reducible apply wps_box1 (v := .string _) S); (case hx | h1 => rfl); clear S; intro bz wz S) | ((with_reducible apply wps_box1 (v := .func _ _ _) S); (case hx | h1 => rfl); clear S; intro bz wz S) | ((with_reducible apply wps_load S 0); (case hx | hi | hu => rfl); (case hT => decide +kernel)) | ((with_reducible apply wps_loada (T := 50) (k := 4) S 0); (case hx | hi => rfl); (case hk => exact Nat.le_of_ble_eq_true rfl); (case hT => decide +kernel)) | ((with_reducible apply wps_load S 1); (case hx | hi | hu => rfl); (case hT => decide +kernel)) | ((with_reducible apply wps_loada (T := 50) (k := 4) S 1); (case hx | hi => rfl); (case hk => exact Nat.le_of_ble_eq_true rfl); (case hT => decide +kernel)) | ((with_reducible apply wps_load S 2); (case hx | hi | hu => rfl); (case hT => decide +kernel)) | ((with_reducible apply wps_loada (T := 50) (k := 4) S 2); (case hx | hi => rfl); (case hk => exact Nat.le_of_ble_eq_true rfl); (case hT => decide +kernel)) | ((with_reducible apply wps_load S 3); (case hx | hi | hu => rfl); (case hT => decide +kernel)) | ((with_reducible apply wps_loada (T := 50) (k := 4) S 3); (case hx | hi => rfl); (case hk => exact Nat.le_of_ble_eq_true rfl); (case hT => decide +kernel))
    go_ret
    exact ⟨ret_int (by unfold Event.tcmp; rw [if_pos h1]), S.below⟩
  | false =>
    have H1 := Lib.hid (bef_is h1)
    cases h2 : b.key.lt a.key with
    | true =>
      have H2 := Lib.hid (bef_is h2)
      go_enter Tryd.func26, Tryd.ntmps26
      go_wp2_with first | (go_at_call 52; have hcz := fun w => H1.out w; (with_reducible refine Calls.mono (hcz _) ?_); clear hcz; rintro e wz ⟨rfl, hE⟩; replace S := S.ext (Keep.of_below hE); clear hE) | (go_at_call 52; have hcz := fun w => H2.out w; (with_reducible refine Calls.mono (hcz _) ?_); clear hcz; rintro e wz ⟨rfl, hE⟩; replace S := S.ext (Keep.of_below hE); clear hE) | ((with_reducible refine tot_done ?ht ?_); (case ht => kernel_rfl)) | ((with_reducible apply wps_text S); (case hm => kernel_rfl); (case hB => decide +kernel); clear S; intro wz S) | ((with_reducible apply wps_boxa S); (case hx => rfl); clear S; intro bz wz S) | ((with_reducible apply wps_box1 (v := .int _ _) S); (case hx | h1 => rfl); clear S; intro bz wz S) | ((with_reducible apply wps_box1 (v := .bool _) S); (case hx | h1 => rfl); clear S; intro bz wz S) | ((with_reducible apply wps_box1 (v := .slice _ _ _) S); (case hx | h1 => rfl); clear S; intro bz wz S) | ((with_reducible apply wps_box1 (v := .pointer _) S); (case hx | h1 => rfl); clear S; intro bz wz S) | ((with_reducible apply wps_box1 (v := .map _) S); (case hx | h1 => rfl); clear S; intro bz wz S) | ((with_reducible apply wps_box1 (v := .string _) S); (case hx | h1 => rfl); clear S; intro bz wz S) | ((with_reducible apply wps_box1 (v := .func _ _ _) S); (case hx | h1 => rfl); clear S; intro bz wz S) | ((with_reducible apply wps_load S 0); (case hx | hi | hu => rfl); (case hT => decide +kernel)) | ((with_reducible apply wps_loada (T := 50) (k := 4) S 0); (case hx | hi => rfl); (case hk => exact Nat.le_of_ble_eq_true rfl); (case hT => decide +kernel)) | ((with_reducible apply wps_load S 1); (case hx | hi | hu => rfl); (case hT => decide +kernel)) | ((with_reducible apply wps_loada (T := 50) (k := 4) S 1); (case hx | hi => rfl); (case hk => exact Nat.le_of_ble_eq_true rfl); (case hT => decide +kernel)) | ((with_reducible apply wps_load S 2); (case hx | hi | hu => rfl); (case hT => decide +kernel)) | ((with_reducible apply wps_loada (T := 50) (k := 4) S 2); (case hx | hi => rfl); (case hk => exact Nat.le_of_ble_eq_true rfl); (case hT => decide +kernel)) | ((with_reducible apply wps_load S 3); (case hx | hi | hu => rfl); (case hT => decide +kernel)) | ((with_reducible apply wps_loada (T := 50) (k := 4) S 3); (case hx | hi => rfl); (case hk => exact Nat.le_of_ble_eq_true rfl); (case hT => decide +kernel))
      go_ret
      exact ⟨ret_int (by unfold Event.tcmp; rw [h1, h2]; rfl), S.below⟩
    | false =>
      have H2 := Lib.hid (bef_is h2)
      have e : a.tcmp b = orL [icmp a.dst b.dst, icmp a.kind b.kind, icmp a.data b.data] := by unfold Event.tcmp; rw [h1, h2]; rfl
      rw [e]
      clear h1 h2 e
      go_enter Tryd.func26, Tryd.ntmps26
      go_wp2_with first | (go_at_call 52; have hcz := fun w => H1.out w; (with_reducible refine Calls.mono (hcz _) ?_); clear hcz; rintro e wz ⟨rfl, hE⟩; replace S := S.ext (Keep.of_below hE); clear hE) | (go_at_call 52; have hcz := fun w => H2.out w; (with_reducible refine Calls.mono (hcz _) ?_); clear hcz; rintro e wz ⟨rfl, hE⟩; replace S := S.ext (Keep.of_below hE); clear hE) | ((with_reducible refine tot_done ?ht ?_); (case ht => kernel_rfl)) | ((with_reducible apply wps_boxa S); (case hx => rfl); clear S; intro bz wz S) | ((with_reducible apply wps_box1 (v := .int _ _) S); (case hx | h1 => rfl); clear S; intro bz wz S) | ((with_reducible apply wps_box1 (v := .bool _) S); (case hx | h1 => rfl); clear S; intro bz wz S) | ((with_reducible apply wps_box1 (v := .slice _ _ _) S); (case hx | h1 => rfl); clear S; intro bz wz S) | ((with_reducible apply wps_box1 (v := .pointer _) S); (case hx | h1 => rfl); clear S; intro bz wz S) | ((with_reducible apply wps_box1 (v := .map _) S); (case hx | h1 => rfl); clear S; intro bz wz S) | ((with_reducible apply wps_box1 (v := .string _) S); (case hx | h1 => rfl); clear S; intro bz wz S) | ((with_reducible apply wps_box1 (v := .func _ _ _) S); (case hx | h1 => rfl); clear S; intro bz wz S) | ((with_reducible apply wps_load S 0); (case hx | hi | hu => rfl); (case hT => decide +kernel)) | ((with_reducible apply wps_loada (T := 50) (k := 4) S 0); (case hx | hi => rfl); (case hk => exact Nat.le_of_ble_eq_true rfl); (case hT => decide +kernel)) | ((with_reducible apply wps_load S 1); (case hx | hi | hu => rfl); (case hT => decide +kernel)) | ((with_reducible apply wps_loada (T := 50) (k := 4) S 1); (case hx | hi => rfl); (case hk => exact Nat.le_of_ble_eq_true rfl); (case hT => decide +kernel)) | ((with_reducible apply wps_load S 2); (case hx | hi | hu => rfl); (case hT => decide +kernel)) | ((with_reducible apply wps_loada (T := 50) (k := 4) S 2); (case hx | hi => rfl); (case hk => exact Nat.le_of_ble_eq_true rfl); (case hT => decide +kernel)) | ((with_reducible apply wps_load S 3); (case hx | hi | hu => rfl); (case hT => decide +kernel)) | ((with_reducible apply wps_loada (T := 50) (k := 4) S 3); (case hx | hi => rfl); (case hk => exact Nat.le_of_ble_eq_true rfl); (case hT => decide +kernel))
      (refine wp_region_w (soft := [0, 1, 2, 3, 4, 5, 6, 7, 8, 9, 10, 11, 12, 13, 14]) S ?hm ?hB ?_); (case hm => kernel_rfl); (case hB => decide +kernel); clear S
      iterate 15
        (with_reducible apply softs_cons)
        (case hw =>
          (with_reducible apply soft_of); (case hi => rfl)
          intro T wz S
          simp only [List.cons_append, List.nil_append] at S
          go_wp2_with first | (go_at_call 54; refine Calls.mono (cmpInt_calls _ _ _) ?_; rintro e wz ⟨rfl, hE⟩; replace S := S.ext (Keep.of_below hE); clear hE) | ((with_reducible refine tot_done ?ht ?_); (case ht => kernel_rfl)) | ((with_reducible apply wps_load S 0); (case hx | hi | hu => rfl); (case hT => decide +kernel)) | ((with_reducible apply wps_loada (T := 50) (k := 4) S 0); (case hx | hi => rfl); (case hk => exact Nat.le_of_ble_eq_true rfl); (case hT => decide +kernel)) | ((with_reducible apply wps_load S 1); (case hx | hi | hu => rfl); (case hT => decide +kernel)) | ((with_reducible apply wps_loada (T := 50) (k := 4) S 1); (case hx | hi => rfl); (case hk => exact Nat.le_of_ble_eq_true rfl); (case hT => decide +kernel)) | ((with_reducible apply wps_load S 2); (case hx | hi | hu => rfl); (case hT => decide +kernel)) | ((with_reducible apply wps_loada (T := 50) (k := 4) S 2); (case hx | hi => rfl); (case hk => exact Nat.le_of_ble_eq_true rfl); (case hT => decide +kernel)) | ((with_reducible apply wps_load S 3); (case hx | hi | hu => rfl); (case hT => decide +kernel)) | ((with_reducible apply wps_loada (T := 50) (k := 4) S 3); (case hx | hi => rfl); (case hk => exact Nat.le_of_ble_eq_true rfl); (case hT => decide +kernel))
          exact ⟨rfl, S⟩)
        (case hs => exact ⟨_, rfl, by kernel_rfl⟩)
      refine softs_nil ?_
      repeat'
        (first
          | ((with_reducible apply W_hard1 (i := 15)); (case hn => rfl); (case hr => decide +kernel)) | ((with_reducible apply W_hard1 (i := 16)); (case hn => rfl); (case hr => decide +kernel)) | ((with_reducible apply W_hard1 (i := 17)); (case hn => rfl); (case hr => decide +kernel)) | ((with_reducible apply W_hard2 (i := 15) (i' := 16)); (case hn => rfl); (case hr => decide +kernel)) | ((with_reducible apply W_hard2 (i := 15) (i' := 17)); (case hn => rfl); (case hr => decide +kernel)) | ((with_reducible apply W_hard2 (i := 16) (i' := 17)); (case hn => rfl); (case hr => decide +kernel)))
        all_goals
          intro wz S
          (with_reducible apply hard_of); (case hi => rfl)
          simp only [List.cons_append, List.nil_append] at S
          try simp only [pick, nth] at S
          go_wp2_with first | ((with_reducible apply wps_buildSlice (T := 132) (E := 3) (cs := #[.int .i64 (icmp a.dst b.dst), .int .i64 (icmp a.kind b.kind), .int .i64 (icmp a.data b.data)]) S); (case hr => intro w; kernel_rfl); clear S; intro bz wz S) | (go_at_call 53; refine Calls.mono (orInt_calls _ [icmp a.dst b.dst, icmp a.kind b.kind, icmp a.data b.data] _ _ (blk_sl _ intE_len (S.get (i := 2) rfl).choose_spec rfl rfl) (Nat.le_of_ble_eq_true rfl)) ?_; rintro e wz ⟨rfl, hE⟩; replace S := S.ext (Keep.of_below hE); clear hE) | ((with_reducible refine tot_done ?ht ?_); (case ht => kernel_rfl)) | ((with_reducible apply wps_load S 0); (case hx | hi | hu => rfl); (case hT => decide +kernel)) | ((with_reducible apply wps_loada (T := 50) (k := 4) S 0); (case hx | hi => rfl); (case hk => exact Nat.le_of_ble_eq_true rfl); (case hT => decide +kernel)) | ((with_reducible apply wps_load S 1); (case hx | hi | hu => rfl); (case hT => decide +kernel)) | ((with_reducible apply wps_loada (T := 50) (k := 4) S 1); (case hx | hi => rfl); (case hk => exact Nat.le_of_ble_eq_true rfl); (case hT => decide +kernel)) | ((with_reducible apply wps_load S 2); (case hx | hi | hu => rfl); (case hT => decide +kernel)) | ((with_reducible apply wps_loada (T := 50) (k := 4) S 2); (case hx | hi => rfl); (case hk => exact Nat.le_of_ble_eq_true rfl); (case hT => decide +kernel)) | ((with_reducible apply wps_load S 3); (case hx | hi | hu => rfl); (case hT => decide +kernel)) | ((with_reducible apply wps_loada (T := 50) (k := 4) S 3); (case hx | hi => rfl); (case hk => exact Nat.le_of_ble_eq_true rfl); (case hT => decide +kernel)) | ((with_reducible apply wps_load S 4); (case hx | hi | hu => rfl); (case hT => decide +kernel)) | ((with_reducible apply wps_loada (T := 50) (k := 4) S 4); (case hx | hi => rfl); (case hk => exact Nat.le_of_ble_eq_true rfl); (case hT => decide +kernel)) | ((with_reducible apply wps_load S 5); (case hx | hi | hu => rfl); (case hT => decide +kernel)) | ((with_reducible apply wps_loada (T := 50) (k := 4) S 5); (case hx | hi => rfl); (case hk => exact Nat.le_of_ble_eq_true rfl); (case hT => decide +kernel))
          first
            | refine ⟨_, S.pick [1, 2, 3, 4, 5, 6, 0] rfl, ?_⟩
            | refine ⟨_, S.pick [1, 2, 3, 4, 5, 0] rfl, ?_⟩
            | refine ⟨_, S.pick [1, 2, 3, 4, 0] rfl, ?_⟩
            | refine ⟨_, S.pick [1, 2, 3, 0] rfl, ?_⟩
            | refine ⟨_, S.pick [1, 2, 0] rfl, ?_⟩
            | refine ⟨_, S, ?_⟩
      (with_reducible apply W_done); (case hn => rfl); (case hr => decide +kernel)
      clear S
      intro wz S
      simp only [List.cons_append, List.nil_append] at S
      try simp only [pick, nth] at S
      go_wp2_with first | ((with_reducible refine tot_done ?ht ?_); (case ht => kernel_rfl)) | ((with_reducible apply wps_text S); (case hm => kernel_rfl); (case hB => decide +kernel); clear S; intro wz S) | ((with_reducible apply wps_load S 0); (case hx | hi | hu => rfl); (case hT => decide +kernel)) | ((with_reducible apply wps_loada (T := 50) (k := 4) S 0); (case hx | hi => rfl); (case hk => exact Nat.le_of_ble_eq_true rfl); (case hT => decide +kernel)) | ((with_reducible apply wps_load S 1); (case hx | hi | hu => rfl); (case hT => decide +kernel)) | ((with_reducible apply wps_loada (T := 50) (k := 4) S 1); (case hx | hi => rfl); (case hk => exact Nat.le_of_ble_eq_true rfl); (case hT => decide +kernel)) | ((with_reducible apply wps_load S 2); (case hx | hi | hu => rfl); (case hT => decide +kernel)) | ((with_reducible apply wps_loada (T := 50) (k := 4) S 2); (case hx | hi => rfl); (case hk => exact Nat.le_of_ble_eq_true rfl); (case hT => decide +kernel)) | ((with_reducible apply wps_load S 3); (case hx | hi | hu => rfl); (case hT => decide +kernel)) | ((with_reducible apply wps_loada (T := 50) (k := 4) S 3); (case hx | hi => rfl); (case hk => exact Nat.le_of_ble_eq_true rfl); (case hT => decide +kernel))
      go_ret
      exact ⟨rfl, S.below⟩
theorem icmp_cases (x y : Int) : (x < y ∧ icmp x y = -1) ∨ (x = y ∧ icmp x y = 0) ∨ (y < x ∧ icmp x y = 1) := by
  unfold icmp
  rcases Int.lt_trichotomy x y with h | h | h
  · exact .inl ⟨h, by rw [if_pos h]⟩
  · exact .inr (.inl ⟨h, by rw [if_neg (by omega), if_neg (by omega)]⟩)
  · exact .inr (.inr ⟨h, by rw [if_neg (by omega), if_pos h]⟩)
theorem tcmp_neg (a b : Event) : decide (a.tcmp b < 0) = decide (evLt a b) := by
  rw [decide_eq_decide]
  have hl : ∀ k l : Key, k.lt l = decide (k.at_ < l.at_ ∨ (k.at_ = l.at_ ∧ (k.src < l.src ∨ (k.src = l.src ∧ (k.sent < l.sent ∨ (k.sent = l.sent ∧ k.no < l.no)))))) := fun k l => by
    rw [Bool.eq_iff_iff, Key.lt_iff]; simp
  unfold Event.tcmp evLt
  rw [hl, hl]
  simp only [decide_eq_true_eq]
  split
  · constructor
    · intro _; omega
    · intro _; omega
  · split
    · constructor
      · intro h; omega
      · intro _; omega
    · simp only [orL]
      rcases icmp_cases a.dst b.dst with ⟨h1, e1⟩ | ⟨h1, e1⟩ | ⟨h1, e1⟩ <;> rw [e1]
      · constructor
        · intro _; omega
        · intro _; simp
      · rcases icmp_cases a.kind b.kind with ⟨h2, e2⟩ | ⟨h2, e2⟩ | ⟨h2, e2⟩ <;> rw [e2]
        · constructor
          · intro _; omega
          · intro _; simp
        · rcases icmp_cases a.data b.data with ⟨h3, e3⟩ | ⟨h3, e3⟩ | ⟨h3, e3⟩ <;> rw [e3]
          · constructor
            · intro _; omega
            · intro _; simp
          · constructor
            · intro h; exact absurd h (by simp)
            · intro _; omega
          · constructor
            · intro h; exact absurd h (by simp)
            · intro _; omega
        · constructor
          · intro h; exact absurd h (by simp)
          · intro _; omega
      · constructor
        · intro h; exact absurd h (by simp)
        · intro _; omega
theorem swo_ev : SWO (ltOf Event.tcmp) := by
  have e : (ltOf Event.tcmp) = fun x y => decide (evLt x y) := by
    funext x y; exact tcmp_neg _ _
  rw [e]
  refine ⟨fun x => ?_, fun x y z h k => ?_, fun x y z h k => ?_⟩
  · simp [evLt_irrefl]
  · simp only [decide_eq_true_eq] at *; exact evLt_trans h k
  · simp only [decide_eq_false_iff_not] at *
    unfold evLt at *; omega
theorem sorted_ev {l ys : List Event} (hp : ys.Perm l) (hs : ys.Pairwise (fun a b => ltOf Event.tcmp b a = false)) : ys = sortT l := by
  refine sortT_eq hp (hs.imp fun {a b} h => ?_)
  have := tcmp_neg b a
  unfold ltOf at h
  rw [h] at this
  simpa using this.symm
theorem icmpare_grew (a b : Event) (w : World) : Calls Tryd.prog 26 #[.agg a.cells.toArray, .agg b.cells.toArray] w fun e w' => e = .returned (.int .i64 (a.tcmp b)) ∧ Grew w w' :=
  (icmpare_calls a b w).mono fun _ _ h => ⟨h.1, Grew.of_keep (Keep.of_below h.2)⟩
end Go.Proofs.YtegcghofkbdgiaaDoor
/- A slice that is owned is cut; its last element cleared. Over any program. -/
namespace Go.Proofs.YtegcghofkbdgiaaDoor.Mem
open Go Go.RowKit Reg
section
variable {P : Program} {ops : Array Oper} {rest : List Oper} {a : Act} {Q : Exit → Act → World → Prop} {d : Option Tmp} {tt : TypeId} {p : String} {af : Array Edge} {gd : Option (Nat × Bool)} {x y : Operand}
variable {G : Nat → Prop} {w0 w w' : World} {L : List Asn}
/-- 's[l:]', as a value. -/
theorem wps_tail {T E : TypeId} {k R n c l m : Nat} {lo : Operand} (hT : P.underlying T = some (.slice E)) (hE : ∀ w, (sizeOf E).run P w = .ok k w) (hx : a.eval x = .slice (some ⟨R, 0, none⟩) n c) (hlo : a.eval lo = .int .i64 l) (hm : n = l + m) (h1 : 0 < m) (h2 : n ≤ c)
    (next : wpList P ops Q rest (a.put d (.slice (some ⟨R, l * k, none⟩) m (c - l))) w) (hgd : gOk gd ops a = true := by with_unfolding_all rfl) :
    wpList P ops Q ({ dst := d, op := .slice T x (some lo) none none, type := tt, pos := p, after := af, guard := gd } :: rest) a w :=
  wpList_ok hgd fun K hK => by
    have hr := run_sliceAt_sl (P := P) (w := w) hT (hE w) (some ⟨R, 0, none⟩) n c l n (some (.int .i64 l)) none (.inr rfl) (.inl ⟨rfl, rfl⟩) (by omega) h2
    rw [if_neg (by omega), show n - l = m by omega] at hr
    simp only [Option.map_some, add_none, Nat.zero_add] at hr
    unfold Oper.wp execOp
    simp only [Option.map_none, Option.map_some, hx, hlo, hr, Sem.run_bind, Sem.run_pure, Result.andThen_ok]
    exact hK _ _ next
/-- 's[:u]', in its place. -/
theorem wps_cutown {α : Type} {T E : TypeId} {enc : α → List Value} {k R n c u : Nat} {hi' : Operand} {xs : List α} (hk : ∀ x, (enc x).length = k) (hT : P.underlying T = some (.slice E)) (hE : ∀ w, (sizeOf E).run P w = .ok k w) (S : St G w0 w L) (i : Nat)
    (hi : L[i]? = some (Own E enc k (.slice (some ⟨R, 0, none⟩) n c) xs)) (hx : a.eval x = .slice (some ⟨R, 0, none⟩) n c) (hu : a.eval hi' = .int .i64 u) (h1 : u ≤ xs.length)
    (next : St G w0 w (L.set i (Own E enc k (.slice (some ⟨R, 0, none⟩) u c) (xs.take u))) → wpList P ops Q rest (a.put d (.slice (some ⟨R, 0, none⟩) u c)) w) (hgd : gOk gd ops a = true := by with_unfolding_all rfl) :
    wpList P ops Q ({ dst := d, op := .slice T x none (some hi') none, type := tt, pos := p, after := af, guard := gd } :: rest) a w :=
  wpList_ok hgd fun K hK => by
    obtain ⟨F0, hF0⟩ := S.get hi
    obtain ⟨cur, hO, hn⟩ := own_at hF0
    have hle := hO.le
    have hr := run_sliceAt_sl (P := P) (w := w) hT (hE w) (some ⟨R, 0, none⟩) n c 0 u none (some (.int .i64 u)) (.inl ⟨rfl, rfl⟩) (.inr rfl) (Nat.zero_le _) (by omega)
    have e : (if c = 0 then (some ⟨R, 0, none⟩ : Option Addr) else (some ⟨R, 0, none⟩ : Option Addr).map (·.add (0 * k))) = some ⟨R, 0, none⟩ := by simp [add_none]
    rw [e, Nat.sub_zero, Nat.sub_zero] at hr
    unfold Oper.wp execOp
    simp only [Option.map_none, Option.map_some, hx, hu, hr, Sem.run_bind, Sem.run_pure, Result.andThen_ok]
    refine hK _ _ (next (S.weak hi (fun _ => rfl) fun F hF => ⟨F, fun _ hb => hb, ?_, fun x => by rw [hF.2 x]; rfl⟩))
    obtain ⟨cur, hO, hn⟩ := own_at hF
    have := (hO.cut hk u h1).own hk
    rwa [show (xs.take u).length = u by rw [List.length_take]; omega] at this
end
end Go.Proofs.YtegcghofkbdgiaaDoor.Mem
/- The tail of a slice that is owned is cleared. Over any program. -/
namespace Go.Proofs.YtegcghofkbdgiaaDoor.Mem
open Go Go.RowKit Reg
section
variable {P : Program} {ops : Array Oper} {rest : List Oper} {a : Act} {Q : Exit → Act → World → Prop} {d : Option Tmp} {tt : TypeId} {p : String} {af : Array Edge} {gd : Option (Nat × Bool)} {x y : Operand}
variable {G : Nat → Prop} {w0 w w' : World} {L : List Asn}
theorem zeroCells_rep {α : Type} {enc : α → List Value} {k : Nat} {z : Value} {x0 : α} (hk : ∀ x, (enc x).length = k) (hz : z.cells.toList = enc x0) (n : Nat) : (Builtin.zeroCells z.cells n).toList = flatE enc (List.replicate n x0) := by
  have hs : z.cells.size = k := by rw [← hk x0, ← hz]; simp
  have := made_rep (z := z) hk hz n
  rw [← this]
  unfold Builtin.zeroCells madeCells
  rw [hs]
theorem wps_clearTail {α : Type} {T E : TypeId} {enc : α → List Value} {k bytes R n c c' m q : Nat} {xs : List α} (el : Elem P T E k bytes) (hk : ∀ x, (enc x).length = k) (hone : ∀ x, ∀ u ∈ enc x, u.oneCell' = true) (z0 : α) (hz : zeroIs P E k (enc z0)) (S : St G w0 w L) (i : Nat)
    (hi : L[i]? = some (Own E enc k (.slice (some ⟨R, 0, none⟩) n c) xs)) (o : Nat) (hx : a.eval x = .slice (some ⟨R, o, none⟩) q c') (ho : o = m * k) (hm : xs.length = m + q) (h0 : 0 < q)
    (next : ∀ w', St G w0 w' (L.set i (Own E enc k (.slice (some ⟨R, 0, none⟩) n c) (xs.take m ++ List.replicate q z0))) → wpList P ops Q rest (a.put d (.tuple #[])) w') (hgd : gOk gd ops a = true := by with_unfolding_all rfl) :
    wpList P ops Q ({ dst := d, op := .call { callee := .builtin .clear, args := #[x], argTypes := #[T] }, type := tt, pos := p, after := af, guard := gd } :: rest) a w :=
  wpList_ok hgd fun K hK => by
    obtain ⟨q, rfl⟩ : ∃ q', q = q' + 1 := ⟨q - 1, by omega⟩
    obtain ⟨F, hF⟩ := S.get hi
    obtain ⟨cur, hO, hn⟩ := own_at hF
    obtain ⟨ei, z, h⟩ := el
    obtain ⟨i', z', g1, g2, g3, g4, g5⟩ := hz
    have e1 : ei = i' := by have := h.info; rw [g1] at this; exact (Option.some.inj this).symm
    subst e1
    have e2 : z = z' := by have := h.zero; rw [g2] at this; exact (Option.some.inj this).symm
    subst e2
    have hzl : (Builtin.zeroCells z.cells (q + 1)).toList = flatE enc (List.replicate (q + 1) z0) := zeroCells_rep hk g4 _
    have hfl : (flatE enc (List.replicate (q + 1) z0)).length = (q + 1) * k := by rw [flatE_length hk, List.length_replicate]
    have hsize : m * k + (q + 1) * k ≤ cur.size := by
      have h3 := hO.le
      rw [hO.size, ← Nat.add_mul, ← hm]
      exact Nat.mul_le_mul_right k h3
    have h1 : ∀ v ∈ flatE enc (List.replicate (q + 1) z0), v.oneCell' = true := fun v hv => by
      obtain ⟨y, _, hy⟩ := List.mem_flatMap.1 hv
      exact hone y v hy
    obtain ⟨ht, hi2, hz2, hs, hby, hzs, hpos⟩ := h
    have hst := run_storeCells_at P R o E (flatE enc (List.replicate (q + 1) z0)) 0 cur w hO.heap (by rw [hfl, ho]; omega) h1
    simp only [Nat.add_zero] at hst
    have hr : (Builtin.clear_ #[T] tt #[.slice (some ⟨R, o, none⟩) (q + 1) c']).run P w = .ok (.tuple #[]) (w.setRow R (splice cur o (flatE enc (List.replicate (q + 1) z0)))) := by
      simp only [Builtin.clear_, List.getElem?_toArray, List.getElem?_cons_zero, Sem.run_bind, run_underlying ht, Result.andThen_ok, zeroValue, typeInfo, run_program, hi2, hz2, hzl, hst, Sem.run_pure]
      rfl
    unfold Oper.wp execOp
    simp [resolve, invoke, builtin, hx, hr, Result.andThen]
    refine hK _ _ (next _ (S.step hi rfl fun F hF => ?_))
    refine ⟨F, setRow_keep.mono (fun x _ h e => h ((hF.2 x).2 (by simp [Value.ownBlock, e]))), ⟨?_, fun x => by rw [hF.2 x]⟩, fun _ h => .inl h⟩
    have hl : (xs.take m ++ List.replicate (q + 1) z0).length = n := by rw [List.length_append, List.length_take, List.length_replicate, hn]; omega
    have hln : n = m + (q + 1) := by rw [hn]; exact hm
    have hnew : OwnAt E enc k 0 (w.setRow R (splice cur o (flatE enc (List.replicate (q + 1) z0)))) R c (splice cur o (flatE enc (List.replicate (q + 1) z0))) (xs.take m ++ List.replicate (q + 1) z0) := by
      refine ⟨setRow_heap w R _ _ E _ hO.heap, hO.lo, by rw [hl, hn]; exact hO.le, hO.max, by rw [splice_size (by rw [hfl, ho]; exact hsize)]; exact hO.size, ?_⟩
      have ht2 := (hO.cut hk m (by omega)).take
      rw [show (xs.take m).length = m by rw [List.length_take]; omega] at ht2
      unfold splice
      rw [hl, hln, flatE_append, ← ht2, ho]
      have hcl : (cur.toList.take (m * k)).length = m * k := by rw [List.length_take, Array.length_toList]; omega
      simp only [List.append_assoc]
      rw [← List.append_assoc]
      refine List.take_left' ?_
      rw [List.length_append, hcl, hfl, ← Nat.add_mul]
    have := hnew.own hk
    rwa [hl] at this
end
end Go.Proofs.YtegcghofkbdgiaaDoor.Mem
namespace Go.Proofs.YtegcghofkbdgiaaDoor
open Go Go.Shelf

set_option maxRecDepth 100000
def sortEvs_ren : Go.Shelf.Ren := ⟨fun | 6 => 25 | 14 => 50 | 15 => 51 | 20 => 76 | 21 => 77 | 22 => 78 | 23 => 79 | 24 => 80 | 25 => 81 | 26 => 82 | 27 => 83 | 28 => 84 | 29 => 85 | 46 => 96 | 47 => 97 | 48 => 98 | 49 => 99 | 50 => 100 | 57 => 106 | n => n, fun | 0 => 0 | 1 => 1 | 2 => 2 | 3 => 3 | 4 => 4 | 5 => 5 | 6 => 6 | 7 => 7 | 8 => 8 | 9 => 9 | 10 => 10 | 11 => 11 | 12 => 12 | 13 => 13 | 14 => 14 | 15 => 15 | 16 => 16 | 17 => 17 | 18 => 18 | 19 => 19 | 20 => 20 | 21 => 21 | 22 => 29 | 23 => 79 | 24 => 52 | 25 => 80 | 27 => 132 | 29 => 124 | 37 => 119 | 38 => 120 | 39 => 121 | 42 => 128 | 44 => 143 | 45 => 144 | 46 => 145 | 47 => 146 | 48 => 147 | 49 => 148 | 50 => 149 | 51 => 150 | 52 => 151 | 53 => 152 | 54 => 153 | 55 => 154 | 66 => 164 | 67 => 165 | 68 => 166 | 69 => 167 | 70 => 168 | 71 => 169 | 76 => 180 | 77 => 181 | 78 => 182 | 81 => 183 | 82 => 184 | 83 => 185 | 84 => 186 | 85 => 187 | 86 => 188 | 87 => 62 | 88 => 189 | 89 => 190 | 90 => 191 | 91 => 192 | 92 => 193 | 93 => 194 | 94 => 195 | 95 => 196 | 96 => 197 | n => n, fun n => n⟩
theorem sortEvs : SlLaysF0.n6 Tryd.prog sortEvs_ren := {
  mixed := by kernel_rfl,
  f6 := ⟨Tryd.f25.name, by decide, Tryd.func25.trans (congrArg some (by kernel_rfl))⟩,
  f14 := ⟨Tryd.f50.name, by decide, Tryd.func50.trans (congrArg some (by kernel_rfl))⟩,
  f15 := Tryd.func51.trans (congrArg some (by kernel_rfl)),
  f20 := ⟨Tryd.f76.name, by decide, Tryd.func76.trans (congrArg some (by kernel_rfl))⟩,
  f21 := ⟨Tryd.f77.name, by decide, Tryd.func77.trans (congrArg some (by kernel_rfl))⟩,
  f22 := ⟨Tryd.f78.name, by decide, Tryd.func78.trans (congrArg some (by kernel_rfl))⟩,
  f23 := ⟨Tryd.f79.name, by decide, Tryd.func79.trans (congrArg some (by kernel_rfl))⟩,
  f24 := ⟨Tryd.f80.name, by decide, Tryd.func80.trans (congrArg some (by kernel_rfl))⟩,
  f25 := ⟨Tryd.f81.name, by decide, Tryd.func81.trans (congrArg some (by kernel_rfl))⟩,
  f26 := ⟨Tryd.f82.name, by decide, Tryd.func82.trans (congrArg some (by kernel_rfl))⟩,
  f27 := ⟨Tryd.f83.name, by decide, Tryd.func83.trans (congrArg some (by kernel_rfl))⟩,
  f28 := Tryd.func84.trans (congrArg some (by kernel_rfl)),
  f29 := Tryd.func85.trans (congrArg some (by kernel_rfl)),
  f46 := ⟨Tryd.f96.name, by decide, Tryd.func96.trans (congrArg some (by kernel_rfl))⟩,
  f47 := Tryd.func97.trans (congrArg some (by kernel_rfl)),
  f48 := Tryd.func98.trans (congrArg some (by kernel_rfl)),
  f49 := ⟨Tryd.f99.name, by decide, Tryd.func99.trans (congrArg some (by kernel_rfl))⟩,
  f50 := ⟨Tryd.f100.name, by decide, Tryd.func100.trans (congrArg some (by kernel_rfl))⟩,
  f57 := ⟨Tryd.f106.name, by decide, Tryd.func106.trans (congrArg some (by kernel_rfl))⟩,
  t0 := Tryd.underlying0,
  a0 := Tryd.isAgg0,
  z0 := Tryd.sizeOf0,
  v0 := Tryd.zeroValue0,
  t3 := Tryd.underlying3,
  a3 := Tryd.isAgg3,
  z3 := Tryd.sizeOf3,
  v3 := Tryd.zeroValue3,
  t4 := Tryd.underlying4,
  a4 := Tryd.isAgg4,
  z4 := Tryd.sizeOf4,
  v4 := Tryd.zeroValue4,
  t5 := Tryd.underlying5,
  a5 := Tryd.isAgg5,
  z5 := Tryd.sizeOf5,
  v5 := Tryd.zeroValue5,
  t9 := Tryd.underlying9,
  a9 := Tryd.isAgg9,
  z9 := Tryd.sizeOf9,
  v9 := Tryd.zeroValue9,
  t22 := Tryd.underlying29,
  a22 := Tryd.isAgg29,
  z22 := Tryd.sizeOf29,
  v22 := Tryd.zeroValue29,
  t25 := Tryd.underlying80,
  a25 := Tryd.isAgg80,
  z25 := Tryd.sizeOf80,
  v25 := Tryd.zeroValue80,
  t39 := Tryd.underlying121,
  a39 := Tryd.isAgg121,
  z39 := Tryd.sizeOf121,
  v39 := Tryd.zeroValue121,
  t45 := Tryd.underlying144,
  a45 := Tryd.isAgg144,
  z45 := Tryd.sizeOf144,
  v45 := Tryd.zeroValue144,
  t46 := Tryd.underlying145,
  a46 := Tryd.isAgg145,
  z46 := Tryd.sizeOf145,
  v46 := Tryd.zeroValue145,
  t50 := Tryd.underlying149,
  a50 := Tryd.isAgg149,
  z50 := Tryd.sizeOf149,
  v50 := Tryd.zeroValue149,
  t53 := Tryd.underlying152,
  a53 := Tryd.isAgg152,
  z53 := Tryd.sizeOf152,
  v53 := Tryd.zeroValue152,
  t55 := Tryd.underlying154,
  a55 := Tryd.isAgg154,
  z55 := Tryd.sizeOf154,
  v55 := Tryd.zeroValue154,
  t66 := Tryd.underlying164,
  a66 := Tryd.isAgg164,
  z66 := Tryd.sizeOf164,
  v66 := Tryd.zeroValue164,
  t70 := Tryd.underlying168,
  a70 := Tryd.isAgg168,
  z70 := Tryd.sizeOf168,
  v70 := Tryd.zeroValue168,
  t76 := Tryd.underlying180,
  a76 := Tryd.isAgg180,
  z76 := Tryd.sizeOf180,
  v76 := Tryd.zeroValue180,
  t77 := Tryd.underlying181,
  a77 := Tryd.isAgg181,
  z77 := Tryd.sizeOf181,
  v77 := Tryd.zeroValue181 }
end Go.Proofs.YtegcghofkbdgiaaDoor

import Derived.Test.YtkcnbejpmknaoaaDoorW11
import Derived.Test.YtkcnbejpmknaoaaDoorW12
import Derived.Test.YtkcnbejpmknaoaaDoorW09
/- The walks of the script's told, may and text, and of the reference's Told (chapter 21). -/
namespace Go.Proofs.YtkcnbejpmknaoaaDoor
open Go Go.RowKit Reg Mem

theorem below_grown (w : World) (n : Nat) (os : Array Obj) : Below w.heap.size w (Go.Sort.grow (w.drewN n) os) := by
  have h := below_drewN w n
  refine ⟨h.os, h.tape, h.output, ?_, fun k hk => ?_, h.drawn⟩
  · simp [Go.Sort.grow, World.drewN]
  · have h2 := h.block k hk
    rw [← h2]
    simp only [Go.Sort.grow]
    rw [Array.getElem?_append_left (Nat.lt_of_lt_of_le hk h.size)]
theorem itoa_calls (tE : TypeId) (pE : Value) (n : Int) (w : World) (F : Nat → Prop) (h : (LibA tE pE).at_ w F) (h0 : 0 ≤ n) (h1 : n ≤ 4096) :
    Calls Tryd.prog 21 #[.int .i64 n] w fun e w' => e = .returned (strV (numT n)) ∧ Below w.heap.size w w' := by
  refine (Tryd.strconv_Itoa n (by omega) (by omega) w h.1.pow).mono fun e w' ⟨he, k, os, hw⟩ => ⟨?_, by rw [hw]; exact below_grown w k os⟩
  rw [he]
  have e1 : Lib.itoa n = numT n := by unfold Lib.itoa numT; rw [if_neg (by omega)]
  rw [e1]; rfl
theorem forms_name {k : Nat} {x : List UInt8 × Nat} (h : formsL[k]? = some x) : x.1 = nameI (k : Int) := by
  have hk : k < 4 := by have := (List.getElem?_eq_some_iff.1 h).1; exact this
  rcases (by omega : k = 0 ∨ k = 1 ∨ k = 2 ∨ k = 3) with rfl | rfl | rfl | rfl <;> (simp only [formsL, List.getElem?_cons_zero, List.getElem?_cons_succ, Option.some.injEq] at h; subst h; rfl)
set_option maxRecDepth 100000 in
set_option maxHeartbeats 16000000 in
theorem told_calls (d : DoE) (w : World) (F : Nat → Prop) (h : FormsT.at_ w F) (h0 : 0 ≤ d.what) (h3 : d.what ≤ 3) :
    Calls Tryd.prog 18 #[.agg #[.int .i64 d.what, .int .i64 d.a, .int .i64 d.b]] w fun e w' => e = .returned (.agg #[.int .i64 (toldE d).what, .int .i64 (toldE d).a, .int .i64 (toldE d).b]) ∧ Below w.heap.size w w' := by
  obtain ⟨wt, a, b⟩ := d
  simp only at h0 h3 ⊢
  obtain ⟨k, rfl⟩ : ∃ k : Nat, wt = k := ⟨wt.toNat, by omega⟩
  have hk : k < 4 := by omega
  have hk5 : (k : Int) < 4 := by omega
  obtain ⟨⟨fw, m⟩, hfm⟩ : ∃ x, formsL[k]? = some x := ⟨_, List.getElem?_eq_getElem (by rw [forms_len]; exact hk)⟩
  have hm : m = manyI (k : Int) := by rw [many_nat hk]; exact forms_many hfm
  have HT : Hid (toldE ⟨k, a, b⟩ = ⟨k, if m < 1 then 0 else a, if m < 2 then 0 else b⟩) := Lib.hid (by unfold toldE; rw [hm])
  rw [HT.out]
  have HFM := Lib.hid hfm
  have S : St (fun _ => False) w w [FormsT] := (St.init _ w).share (A := FormsT) rfl rfl h
  have hmm : m ≤ 2 := by rw [hm]; unfold manyI; split; omega; split <;> omega
  clear hm hfm HT h
  by_cases h2 : m < 2
  · have c2 : (m : Int) < 2 := by omega
    by_cases h1 : m < 1
    · have c1 : (m : Int) < 1 := by omega
      simp only [if_pos h1, if_pos h2]
      clear h1 h2
      go_enter Tryd.func18, Tryd.ntmps18
      go_wp2_with first | ((with_reducible apply wps_load_el S 2 (hj := HFM.out) (q := 1) (u := .int .i64 m)); (case hx | hi => rfl); (case hn => omega); (case hu => rfl); (case hT => decide +kernel)) | ((with_reducible apply wps_store (u := .int .i64 0) S 1); (case hx | hy | hi | h1 => rfl); (case hn => exact Nat.le_of_ble_eq_true rfl); (case hT => decide +kernel); clear S; intro wz S; simp only [List.set_cons_succ, List.set_cons_zero, List.setIfInBounds_toArray] at S) | ((with_reducible apply wps_store (u := .int .i64 0) S 1); (case hx | hy | hi | h1 => rfl); (case hn => exact Nat.le_of_ble_eq_true rfl); (case hT => decide +kernel); clear S; intro wz S; simp only [List.set_cons_succ, List.set_cons_zero, List.setIfInBounds_toArray] at S) | ((with_reducible apply wps_loada (T := 42) (k := 3) S 1); (case hx | hi => rfl); (case hk => exact Nat.le_of_ble_eq_true rfl); (case hT => decide +kernel)) | ((with_reducible apply wps_storea (T := 42) S 0 (vs := [.int .i64 k, .int .i64 0, .int .i64 0]) (m := 3)); (case hx | hy | hi | hm | h1 => rfl); (case hn => exact Nat.le_of_ble_eq_true rfl); (case hT => decide +kernel); clear S; intro wz S; simp only [List.set_cons_zero, List.set_cons_succ, setAll, List.setIfInBounds_toArray] at S) | ((with_reducible refine tot_done ?ht ?_); (case ht => kernel_rfl)) | ((with_reducible apply wps_boxa S); (case hx => rfl); clear S; intro bz wz S) | ((with_reducible apply wps_box1 (v := .int _ _) S); (case hx | h1 => rfl); clear S; intro bz wz S) | ((with_reducible apply wps_box1 (v := .bool _) S); (case hx | h1 => rfl); clear S; intro bz wz S) | ((with_reducible apply wps_box1 (v := .slice _ _ _) S); (case hx | h1 => rfl); clear S; intro bz wz S) | ((with_reducible apply wps_box1 (v := .pointer _) S); (case hx | h1 => rfl); clear S; intro bz wz S) | ((with_reducible apply wps_box1 (v := .map _) S); (case hx | h1 => rfl); clear S; intro bz wz S) | ((with_reducible apply wps_box1 (v := .string _) S); (case hx | h1 => rfl); clear S; intro bz wz S) | ((with_reducible apply wps_box1 (v := .func _ _ _) S); (case hx | h1 => rfl); clear S; intro bz wz S) | ((with_reducible apply wps_alloca (E := 42) S); (case hz => exact Tryd.zeroValue42); clear S; intro bz wz S) | ((with_reducible apply wps_load S 0); (case hx | hi | hu => rfl); (case hT => decide +kernel)) | ((with_reducible apply wps_loada (T := 42) (k := 3) S 0); (case hx | hi => rfl); (case hk => exact Nat.le_of_ble_eq_true rfl); (case hT => decide +kernel)) | ((with_reducible apply wps_load S 1); (case hx | hi | hu => rfl); (case hT => decide +kernel)) | ((with_reducible apply wps_loada (T := 42) (k := 3) S 1); (case hx | hi => rfl); (case hk => exact Nat.le_of_ble_eq_true rfl); (case hT => decide +kernel)) | ((with_reducible apply wps_load S 2); (case hx | hi | hu => rfl); (case hT => decide +kernel)) | ((with_reducible apply wps_loada (T := 42) (k := 3) S 2); (case hx | hi => rfl); (case hk => exact Nat.le_of_ble_eq_true rfl); (case hT => decide +kernel))
      (try simp only [Exit.inBlock, Exit.then]); (with_reducible apply S.ret_cell 0); (case hi | h | hp => rfl); (case hA => kernel_rfl); (case hd => rfl)
      exact ⟨rfl, S.below⟩
    · have c1 : ¬ (m : Int) < 1 := by omega
      simp only [if_neg h1, if_pos h2]
      clear h1 h2
      go_enter Tryd.func18, Tryd.ntmps18
      go_wp2_with first | ((with_reducible apply wps_load_el S 2 (hj := HFM.out) (q := 1) (u := .int .i64 m)); (case hx | hi => rfl); (case hn => omega); (case hu => rfl); (case hT => decide +kernel)) | ((with_reducible apply wps_store (u := .int .i64 0) S 1); (case hx | hy | hi | h1 => rfl); (case hn => exact Nat.le_of_ble_eq_true rfl); (case hT => decide +kernel); clear S; intro wz S; simp only [List.set_cons_succ, List.set_cons_zero, List.setIfInBounds_toArray] at S) | ((with_reducible apply wps_loada (T := 42) (k := 3) S 1); (case hx | hi => rfl); (case hk => exact Nat.le_of_ble_eq_true rfl); (case hT => decide +kernel)) | ((with_reducible apply wps_storea (T := 42) S 0 (vs := [.int .i64 k, .int .i64 a, .int .i64 0]) (m := 3)); (case hx | hy | hi | hm | h1 => rfl); (case hn => exact Nat.le_of_ble_eq_true rfl); (case hT => decide +kernel); clear S; intro wz S; simp only [List.set_cons_zero, List.set_cons_succ, setAll, List.setIfInBounds_toArray] at S) | ((with_reducible refine tot_done ?ht ?_); (case ht => kernel_rfl)) | ((with_reducible apply wps_boxa S); (case hx => rfl); clear S; intro bz wz S) | ((with_reducible apply wps_box1 (v := .int _ _) S); (case hx | h1 => rfl); clear S; intro bz wz S) | ((with_reducible apply wps_box1 (v := .bool _) S); (case hx | h1 => rfl); clear S; intro bz wz S) | ((with_reducible apply wps_box1 (v := .slice _ _ _) S); (case hx | h1 => rfl); clear S; intro bz wz S) | ((with_reducible apply wps_box1 (v := .pointer _) S); (case hx | h1 => rfl); clear S; intro bz wz S) | ((with_reducible apply wps_box1 (v := .map _) S); (case hx | h1 => rfl); clear S; intro bz wz S) | ((with_reducible apply wps_box1 (v := .string _) S); (case hx | h1 => rfl); clear S; intro bz wz S) | ((with_reducible apply wps_box1 (v := .func _ _ _) S); (case hx | h1 => rfl); clear S; intro bz wz S) | ((with_reducible apply wps_alloca (E := 42) S); (case hz => exact Tryd.zeroValue42); clear S; intro bz wz S) | ((with_reducible apply wps_load S 0); (case hx | hi | hu => rfl); (case hT => decide +kernel)) | ((with_reducible apply wps_loada (T := 42) (k := 3) S 0); (case hx | hi => rfl); (case hk => exact Nat.le_of_ble_eq_true rfl); (case hT => decide +kernel)) | ((with_reducible apply wps_load S 1); (case hx | hi | hu => rfl); (case hT => decide +kernel)) | ((with_reducible apply wps_loada (T := 42) (k := 3) S 1); (case hx | hi => rfl); (case hk => exact Nat.le_of_ble_eq_true rfl); (case hT => decide +kernel)) | ((with_reducible apply wps_load S 2); (case hx | hi | hu => rfl); (case hT => decide +kernel)) | ((with_reducible apply wps_loada (T := 42) (k := 3) S 2); (case hx | hi => rfl); (case hk => exact Nat.le_of_ble_eq_true rfl); (case hT => decide +kernel))
      (try simp only [Exit.inBlock, Exit.then]); (with_reducible apply S.ret_cell 0); (case hi | h | hp => rfl); (case hA => kernel_rfl); (case hd => rfl)
      exact ⟨rfl, S.below⟩
  · have c2 : ¬ (m : Int) < 2 := by omega
    have c1 : ¬ (m : Int) < 1 := by omega
    simp only [if_neg h2, if_neg (show ¬ m < 1 by omega)]
    clear h2
    go_enter Tryd.func18, Tryd.ntmps18
    go_wp2_with first | ((with_reducible apply wps_load_el S 2 (hj := HFM.out) (q := 1) (u := .int .i64 m)); (case hx | hi => rfl); (case hn => omega); (case hu => rfl); (case hT => decide +kernel)) | ((with_reducible apply wps_loada (T := 42) (k := 3) S 1); (case hx | hi => rfl); (case hk => exact Nat.le_of_ble_eq_true rfl); (case hT => decide +kernel)) | ((with_reducible apply wps_storea (T := 42) S 0 (vs := [.int .i64 k, .int .i64 a, .int .i64 b]) (m := 3)); (case hx | hy | hi | hm | h1 => rfl); (case hn => exact Nat.le_of_ble_eq_true rfl); (case hT => decide +kernel); clear S; intro wz S; simp only [List.set_cons_zero, List.set_cons_succ, setAll, List.setIfInBounds_toArray] at S) | ((with_reducible refine tot_done ?ht ?_); (case ht => kernel_rfl)) | ((with_reducible apply wps_boxa S); (case hx => rfl); clear S; intro bz wz S) | ((with_reducible apply wps_box1 (v := .int _ _) S); (case hx | h1 => rfl); clear S; intro bz wz S) | ((with_reducible apply wps_box1 (v := .bool _) S); (case hx | h1 => rfl); clear S; intro bz wz S) | ((with_reducible apply wps_box1 (v := .slice _ _ _) S); (case hx | h1 => rfl); clear S; intro bz wz S) | ((with_reducible apply wps_box1 (v := .pointer _) S); (case hx | h1 => rfl); clear S; intro bz wz S) | ((with_reducible apply wps_box1 (v := .map _) S); (case hx | h1 => rfl); clear S; intro bz wz S) | ((with_reducible apply wps_box1 (v := .string _) S); (case hx | h1 => rfl); clear S; intro bz wz S) | ((with_reducible apply wps_box1 (v := .func _ _ _) S); (case hx | h1 => rfl); clear S; intro bz wz S) | ((with_reducible apply wps_alloca (E := 42) S); (case hz => exact Tryd.zeroValue42); clear S; intro bz wz S) | ((with_reducible apply wps_load S 0); (case hx | hi | hu => rfl); (case hT => decide +kernel)) | ((with_reducible apply wps_loada (T := 42) (k := 3) S 0); (case hx | hi => rfl); (case hk => exact Nat.le_of_ble_eq_true rfl); (case hT => decide +kernel)) | ((with_reducible apply wps_load S 1); (case hx | hi | hu => rfl); (case hT => decide +kernel)) | ((with_reducible apply wps_loada (T := 42) (k := 3) S 1); (case hx | hi => rfl); (case hk => exact Nat.le_of_ble_eq_true rfl); (case hT => decide +kernel)) | ((with_reducible apply wps_load S 2); (case hx | hi | hu => rfl); (case hT => decide +kernel)) | ((with_reducible apply wps_loada (T := 42) (k := 3) S 2); (case hx | hi => rfl); (case hk => exact Nat.le_of_ble_eq_true rfl); (case hT => decide +kernel))
    (try simp only [Exit.inBlock, Exit.then]); (with_reducible apply S.ret_cell 0); (case hi | h | hp => rfl); (case hA => kernel_rfl); (case hd => rfl)
    exact ⟨rfl, S.below⟩
set_option maxRecDepth 100000 in
set_option maxHeartbeats 16000000 in
theorem rtold_calls (d : DoE) (w : World) :
    Calls Tryd.prog 23 #[.agg #[.int .i64 d.what, .int .i64 d.a, .int .i64 d.b]] w fun e w' => e = .returned (.agg #[.int .i64 (toldE d).what, .int .i64 (toldE d).a, .int .i64 (toldE d).b]) ∧ Below w.heap.size w w' := by
  obtain ⟨k, a, b⟩ := d
  simp only
  have HMC := Lib.hid (fun w => rmany_calls k w)
  have HT : Hid (toldE ⟨k, a, b⟩ = ⟨k, if manyI k < 1 then 0 else a, if manyI k < 2 then 0 else b⟩) := Lib.hid rfl
  rw [HT.out]
  have S := St.init (fun _ => False) w
  clear HT
  generalize manyI k = m at *
  by_cases h2 : m < 2
  · have c2 : (m : Int) < 2 := by omega
    by_cases h1 : m < 1
    · have c1 : (m : Int) < 1 := by omega
      simp only [if_pos h1, if_pos h2]
      clear h1 h2
      go_enter Tryd.func23, Tryd.ntmps23
      go_wp2_with first | (go_at_call 25; refine Calls.mono (HMC.out _) ?_; rintro e wz ⟨rfl, hE⟩; replace S := S.ext (Keep.of_below hE); clear hE) | ((with_reducible apply wps_store (u := .int .i64 0) S 1); (case hx | hy | hi | h1 => rfl); (case hn => exact Nat.le_of_ble_eq_true rfl); (case hT => decide +kernel); clear S; intro wz S; simp only [List.set_cons_succ, List.set_cons_zero, List.setIfInBounds_toArray] at S) | ((with_reducible apply wps_store (u := .int .i64 0) S 1); (case hx | hy | hi | h1 => rfl); (case hn => exact Nat.le_of_ble_eq_true rfl); (case hT => decide +kernel); clear S; intro wz S; simp only [List.set_cons_succ, List.set_cons_zero, List.setIfInBounds_toArray] at S) | ((with_reducible apply wps_loada (T := 39) (k := 3) S 1); (case hx | hi => rfl); (case hk => exact Nat.le_of_ble_eq_true rfl); (case hT => decide +kernel)) | ((with_reducible apply wps_storea (T := 39) S 0 (vs := [.int .i64 k, .int .i64 0, .int .i64 0]) (m := 3)); (case hx | hy | hi | hm | h1 => rfl); (case hn => exact Nat.le_of_ble_eq_true rfl); (case hT => decide +kernel); clear S; intro wz S; simp only [List.set_cons_zero, List.set_cons_succ, setAll, List.setIfInBounds_toArray] at S) | ((with_reducible refine tot_done ?ht ?_); (case ht => kernel_rfl)) | ((with_reducible apply wps_boxa S); (case hx => rfl); clear S; intro bz wz S) | ((with_reducible apply wps_box1 (v := .int _ _) S); (case hx | h1 => rfl); clear S; intro bz wz S) | ((with_reducible apply wps_box1 (v := .bool _) S); (case hx | h1 => rfl); clear S; intro bz wz S) | ((with_reducible apply wps_box1 (v := .slice _ _ _) S); (case hx | h1 => rfl); clear S; intro bz wz S) | ((with_reducible apply wps_box1 (v := .pointer _) S); (case hx | h1 => rfl); clear S; intro bz wz S) | ((with_reducible apply wps_box1 (v := .map _) S); (case hx | h1 => rfl); clear S; intro bz wz S) | ((with_reducible apply wps_box1 (v := .string _) S); (case hx | h1 => rfl); clear S; intro bz wz S) | ((with_reducible apply wps_box1 (v := .func _ _ _) S); (case hx | h1 => rfl); clear S; intro bz wz S) | ((with_reducible apply wps_alloca (E := 39) S); (case hz => exact Tryd.zeroValue39); clear S; intro bz wz S) | ((with_reducible apply wps_load S 0); (case hx | hi | hu => rfl); (case hT => decide +kernel)) | ((with_reducible apply wps_loada (T := 39) (k := 3) S 0); (case hx | hi => rfl); (case hk => exact Nat.le_of_ble_eq_true rfl); (case hT => decide +kernel)) | ((with_reducible apply wps_load S 1); (case hx | hi | hu => rfl); (case hT => decide +kernel)) | ((with_reducible apply wps_loada (T := 39) (k := 3) S 1); (case hx | hi => rfl); (case hk => exact Nat.le_of_ble_eq_true rfl); (case hT => decide +kernel)) | ((with_reducible apply wps_load S 2); (case hx | hi | hu => rfl); (case hT => decide +kernel)) | ((with_reducible apply wps_loada (T := 39) (k := 3) S 2); (case hx | hi => rfl); (case hk => exact Nat.le_of_ble_eq_true rfl); (case hT => decide +kernel))
      (try simp only [Exit.inBlock, Exit.then]); (with_reducible apply S.ret_cell 0); (case hi | h | hp => rfl); (case hA => kernel_rfl); (case hd => rfl)
      exact ⟨rfl, S.below⟩
    · have c1 : ¬ (m : Int) < 1 := by omega
      simp only [if_neg h1, if_pos h2]
      clear h1 h2
      go_enter Tryd.func23, Tryd.ntmps23
      go_wp2_with first | (go_at_call 25; refine Calls.mono (HMC.out _) ?_; rintro e wz ⟨rfl, hE⟩; replace S := S.ext (Keep.of_below hE); clear hE) | ((with_reducible apply wps_store (u := .int .i64 0) S 1); (case hx | hy | hi | h1 => rfl); (case hn => exact Nat.le_of_ble_eq_true rfl); (case hT => decide +kernel); clear S; intro wz S; simp only [List.set_cons_succ, List.set_cons_zero, List.setIfInBounds_toArray] at S) | ((with_reducible apply wps_loada (T := 39) (k := 3) S 1); (case hx | hi => rfl); (case hk => exact Nat.le_of_ble_eq_true rfl); (case hT => decide +kernel)) | ((with_reducible apply wps_storea (T := 39) S 0 (vs := [.int .i64 k, .int .i64 a, .int .i64 0]) (m := 3)); (case hx | hy | hi | hm | h1 => rfl); (case hn => exact Nat.le_of_ble_eq_true rfl); (case hT => decide +kernel); clear S; intro wz S; simp only [List.set_cons_zero, List.set_cons_succ, setAll, List.setIfInBounds_toArray] at S) | ((with_reducible refine tot_done ?ht ?_); (case ht => kernel_rfl)) | ((with_reducible apply wps_boxa S); (case hx => rfl); clear S; intro bz wz S) | ((with_reducible apply wps_box1 (v := .int _ _) S); (case hx | h1 => rfl); clear S; intro bz wz S) | ((with_reducible apply wps_box1 (v := .bool _) S); (case hx | h1 => rfl); clear S; intro bz wz S) | ((with_reducible apply wps_box1 (v := .slice _ _ _) S); (case hx | h1 => rfl); clear S; intro bz wz S) | ((with_reducible apply wps_box1 (v := .pointer _) S); (case hx | h1 => rfl); clear S; intro bz wz S) | ((with_reducible apply wps_box1 (v := .map _) S); (case hx | h1 => rfl); clear S; intro bz wz S) | ((with_reducible apply wps_box1 (v := .string _) S); (case hx | h1 => rfl); clear S; intro bz wz S) | ((with_reducible apply wps_box1 (v := .func _ _ _) S); (case hx | h1 => rfl); clear S; intro bz wz S) | ((with_reducible apply wps_alloca (E := 39) S); (case hz => exact Tryd.zeroValue39); clear S; intro bz wz S) | ((with_reducible apply wps_load S 0); (case hx | hi | hu => rfl); (case hT => decide +kernel)) | ((with_reducible apply wps_loada (T := 39) (k := 3) S 0); (case hx | hi => rfl); (case hk => exact Nat.le_of_ble_eq_true rfl); (case hT => decide +kernel)) | ((with_reducible apply wps_load S 1); (case hx | hi | hu => rfl); (case hT => decide +kernel)) | ((with_reducible apply wps_loada (T := 39) (k := 3) S 1); (case hx | hi => rfl); (case hk => exact Nat.le_of_ble_eq_true rfl); (case hT => decide +kernel)) | ((with_reducible apply wps_load S 2); (case hx | hi | hu => rfl); (case hT => decide +kernel)) | ((with_reducible apply wps_loada (T := 39) (k := 3) S 2); (case hx | hi => rfl); (case hk => exact Nat.le_of_ble_eq_true rfl); (case hT => decide +kernel))
      (try simp only [Exit.inBlock, Exit.then]); (with_reducible apply S.ret_cell 0); (case hi | h | hp => rfl); (case hA => kernel_rfl); (case hd => rfl)
      exact ⟨rfl, S.below⟩
  · have c2 : ¬ (m : Int) < 2 := by omega
    have c1 : ¬ (m : Int) < 1 := by omega
    simp only [if_neg h2, if_neg (show ¬ m < 1 by omega)]
    clear h2
    go_enter Tryd.func23, Tryd.ntmps23
    go_wp2_with first | (go_at_call 25; refine Calls.mono (HMC.out _) ?_; rintro e wz ⟨rfl, hE⟩; replace S := S.ext (Keep.of_below hE); clear hE) | ((with_reducible apply wps_loada (T := 39) (k := 3) S 1); (case hx | hi => rfl); (case hk => exact Nat.le_of_ble_eq_true rfl); (case hT => decide +kernel)) | ((with_reducible apply wps_storea (T := 39) S 0 (vs := [.int .i64 k, .int .i64 a, .int .i64 b]) (m := 3)); (case hx | hy | hi | hm | h1 => rfl); (case hn => exact Nat.le_of_ble_eq_true rfl); (case hT => decide +kernel); clear S; intro wz S; simp only [List.set_cons_zero, List.set_cons_succ, setAll, List.setIfInBounds_toArray] at S) | ((with_reducible refine tot_done ?ht ?_); (case ht => kernel_rfl)) | ((with_reducible apply wps_boxa S); (case hx => rfl); clear S; intro bz wz S) | ((with_reducible apply wps_box1 (v := .int _ _) S); (case hx | h1 => rfl); clear S; intro bz wz S) | ((with_reducible apply wps_box1 (v := .bool _) S); (case hx | h1 => rfl); clear S; intro bz wz S) | ((with_reducible apply wps_box1 (v := .slice _ _ _) S); (case hx | h1 => rfl); clear S; intro bz wz S) | ((with_reducible apply wps_box1 (v := .pointer _) S); (case hx | h1 => rfl); clear S; intro bz wz S) | ((with_reducible apply wps_box1 (v := .map _) S); (case hx | h1 => rfl); clear S; intro bz wz S) | ((with_reducible apply wps_box1 (v := .string _) S); (case hx | h1 => rfl); clear S; intro bz wz S) | ((with_reducible apply wps_box1 (v := .func _ _ _) S); (case hx | h1 => rfl); clear S; intro bz wz S) | ((with_reducible apply wps_alloca (E := 39) S); (case hz => exact Tryd.zeroValue39); clear S; intro bz wz S) | ((with_reducible apply wps_load S 0); (case hx | hi | hu => rfl); (case hT => decide +kernel)) | ((with_reducible apply wps_loada (T := 39) (k := 3) S 0); (case hx | hi => rfl); (case hk => exact Nat.le_of_ble_eq_true rfl); (case hT => decide +kernel)) | ((with_reducible apply wps_load S 1); (case hx | hi | hu => rfl); (case hT => decide +kernel)) | ((with_reducible apply wps_loada (T := 39) (k := 3) S 1); (case hx | hi => rfl); (case hk => exact Nat.le_of_ble_eq_true rfl); (case hT => decide +kernel)) | ((with_reducible apply wps_load S 2); (case hx | hi | hu => rfl); (case hT => decide +kernel)) | ((with_reducible apply wps_loada (T := 39) (k := 3) S 2); (case hx | hi => rfl); (case hk => exact Nat.le_of_ble_eq_true rfl); (case hT => decide +kernel))
    (try simp only [Exit.inBlock, Exit.then]); (with_reducible apply S.ret_cell 0); (case hi | h | hp => rfl); (case hA => kernel_rfl); (case hd => rfl)
    exact ⟨rfl, S.below⟩
set_option maxRecDepth 100000 in
set_option maxHeartbeats 16000000 in
theorem smay_calls (d : DoE) (w : World) (F : Nat → Prop) (h : FormsT.at_ w F) :
    Calls Tryd.prog 17 #[.agg #[.int .i64 d.what, .int .i64 d.a, .int .i64 d.b]] w fun e w' => e = .returned (.bool (mayE d)) ∧ Below w.heap.size w w' := by
  have S : St (fun _ => False) w w [FormsT] := (St.init _ w).share (A := FormsT) rfl rfl h
  have HTC := Lib.hid (fun w F h h0 h3 => told_calls d w F h h0 h3)
  have HM : Hid (mayE d = (decide (0 ≤ d.what) && decide (d.what ≤ 3) && decide (0 ≤ (toldE d).a) && decide ((toldE d).a ≤ 4095) && decide (0 ≤ (toldE d).b) && decide ((toldE d).b ≤ 4095))) := Lib.hid rfl
  have htw : (toldE d).what = d.what := rfl
  rw [htw] at HTC
  clear h htw
  generalize (toldE d).a = ta at *
  generalize (toldE d).b = tb at *
  generalize mayE d = q at *
  obtain ⟨k, a, b⟩ := d
  simp only at HTC HM ⊢
  by_cases h0 : k < 0
  · have HR : Hid (q = false) := Lib.hid (by rw [HM.out, decide_eq_false (show ¬ 0 ≤ k by omega)]; rfl)
    rw [HR.out]
    clear HM HTC
    go_enter Tryd.func17, Tryd.ntmps17
    go_wp2_with first | go_skip | ((with_reducible refine wpList_skip ?hw ?_); (case hw => with_unfolding_all rfl); simp only [Act.put, List.setIfInBounds_toArray, List.set_cons_succ, List.set_cons_zero]) | ((with_reducible refine tot_done ?ht ?_); (case ht => kernel_rfl)) | ((with_reducible apply wps_boxa S); (case hx => rfl); clear S; intro bz wz S) | ((with_reducible apply wps_box1 (v := .int _ _) S); (case hx | h1 => rfl); clear S; intro bz wz S) | ((with_reducible apply wps_box1 (v := .bool _) S); (case hx | h1 => rfl); clear S; intro bz wz S) | ((with_reducible apply wps_box1 (v := .slice _ _ _) S); (case hx | h1 => rfl); clear S; intro bz wz S) | ((with_reducible apply wps_box1 (v := .pointer _) S); (case hx | h1 => rfl); clear S; intro bz wz S) | ((with_reducible apply wps_box1 (v := .map _) S); (case hx | h1 => rfl); clear S; intro bz wz S) | ((with_reducible apply wps_box1 (v := .string _) S); (case hx | h1 => rfl); clear S; intro bz wz S) | ((with_reducible apply wps_box1 (v := .func _ _ _) S); (case hx | h1 => rfl); clear S; intro bz wz S) | ((with_reducible apply wps_load S 0); (case hx | hi | hu => rfl); (case hT => decide +kernel)) | ((with_reducible apply wps_loada (T := 42) (k := 3) S 0); (case hx | hi => rfl); (case hk => exact Nat.le_of_ble_eq_true rfl); (case hT => decide +kernel)) | ((with_reducible apply wps_load S 1); (case hx | hi | hu => rfl); (case hT => decide +kernel)) | ((with_reducible apply wps_loada (T := 42) (k := 3) S 1); (case hx | hi => rfl); (case hk => exact Nat.le_of_ble_eq_true rfl); (case hT => decide +kernel))
    go_ret
    exact ⟨rfl, S.below⟩
  by_cases h3 : 4 ≤ k
  · have HR : Hid (q = false) := Lib.hid (by rw [HM.out, decide_eq_false (show ¬ k ≤ 3 by omega), Bool.and_false]; rfl)
    rw [HR.out]
    clear HM HTC
    go_enter Tryd.func17, Tryd.ntmps17
    go_wp2_with first | go_skip | ((with_reducible refine wpList_skip ?hw ?_); (case hw => with_unfolding_all rfl); simp only [Act.put, List.setIfInBounds_toArray, List.set_cons_succ, List.set_cons_zero]) | ((with_reducible refine tot_done ?ht ?_); (case ht => kernel_rfl)) | ((with_reducible apply wps_boxa S); (case hx => rfl); clear S; intro bz wz S) | ((with_reducible apply wps_box1 (v := .int _ _) S); (case hx | h1 => rfl); clear S; intro bz wz S) | ((with_reducible apply wps_box1 (v := .bool _) S); (case hx | h1 => rfl); clear S; intro bz wz S) | ((with_reducible apply wps_box1 (v := .slice _ _ _) S); (case hx | h1 => rfl); clear S; intro bz wz S) | ((with_reducible apply wps_box1 (v := .pointer _) S); (case hx | h1 => rfl); clear S; intro bz wz S) | ((with_reducible apply wps_box1 (v := .map _) S); (case hx | h1 => rfl); clear S; intro bz wz S) | ((with_reducible apply wps_box1 (v := .string _) S); (case hx | h1 => rfl); clear S; intro bz wz S) | ((with_reducible apply wps_box1 (v := .func _ _ _) S); (case hx | h1 => rfl); clear S; intro bz wz S) | ((with_reducible apply wps_load S 0); (case hx | hi | hu => rfl); (case hT => decide +kernel)) | ((with_reducible apply wps_loada (T := 42) (k := 3) S 0); (case hx | hi => rfl); (case hk => exact Nat.le_of_ble_eq_true rfl); (case hT => decide +kernel)) | ((with_reducible apply wps_load S 1); (case hx | hi | hu => rfl); (case hT => decide +kernel)) | ((with_reducible apply wps_loada (T := 42) (k := 3) S 1); (case hx | hi => rfl); (case hk => exact Nat.le_of_ble_eq_true rfl); (case hT => decide +kernel))
    go_ret
    exact ⟨rfl, S.below⟩
  have h4 : k ≤ 3 := by omega
  have h5 : 0 ≤ k := by omega
  have HTC2 := Lib.hid (fun w F h => HTC.out w F h h5 h4)
  have HM2 : Hid (q = (decide (0 ≤ ta) && decide (ta ≤ 4095) && decide (0 ≤ tb) && decide (tb ≤ 4095))) := Lib.hid (by rw [HM.out, decide_eq_true h4, decide_eq_true h5]; simp only [Bool.true_and])
  clear HM HTC h4 h5
  have arms : (ta < 0 ∧ q = false) ∨ (0 ≤ ta ∧ 4095 < ta ∧ q = false) ∨ (0 ≤ ta ∧ ta ≤ 4095 ∧ tb < 0 ∧ q = false) ∨ (0 ≤ ta ∧ ta ≤ 4095 ∧ 0 ≤ tb ∧ 4095 < tb ∧ q = false) ∨ (0 ≤ ta ∧ ta ≤ 4095 ∧ 0 ≤ tb ∧ tb ≤ 4095 ∧ q = true) := by
    rw [HM2.out]
    by_cases g1 : 0 ≤ ta
    · by_cases g2 : ta ≤ 4095
      · by_cases g3 : 0 ≤ tb
        · by_cases g4 : tb ≤ 4095
          · simp [g1, g2, g3, g4]
          · simp [g1, g2, g3, g4]; omega
        · simp [g1, g2, g3]; omega
      · simp [g1, g2]; omega
    · simp [g1]; omega
  clear HM2
  rcases arms with ⟨g1, rfl⟩ | ⟨g1, g2, rfl⟩ | ⟨g1, g2, g3, rfl⟩ | ⟨g1, g2, g3, g4, rfl⟩ | ⟨g1, g2, g3, g4, rfl⟩
  all_goals
    as_aux_lemma =>
      go_enter Tryd.func17, Tryd.ntmps17
      go_wp2_with first | go_skip | ((with_reducible refine wpList_skip ?hw ?_); (case hw => with_unfolding_all rfl); simp only [Act.put, List.setIfInBounds_toArray, List.set_cons_succ, List.set_cons_zero]) | ((with_reducible apply wps_loada (T := 42) (k := 3) S 0); (case hx | hi => rfl); (case hk => exact Nat.le_of_ble_eq_true rfl); (case hT => decide +kernel)) | (go_at_call 18; refine Calls.mono (HTC2.out _ _ (S.get (i := 1) rfl).choose_spec) ?_; rintro e wz ⟨rfl, hE⟩; replace S := S.ext (Keep.of_below hE); clear hE) | ((with_reducible apply wps_storea (T := 42) S 0 (vs := [.int .i64 k, .int .i64 ta, .int .i64 tb]) (m := 3)); (case hx | hy | hi | hm | h1 => rfl); (case hn => exact Nat.le_of_ble_eq_true rfl); (case hT => decide +kernel); clear S; intro wz S; simp only [List.set_cons_zero, List.set_cons_succ, setAll, List.setIfInBounds_toArray] at S) | ((with_reducible refine tot_done ?ht ?_); (case ht => kernel_rfl)) | ((with_reducible apply wps_boxa S); (case hx => rfl); clear S; intro bz wz S) | ((with_reducible apply wps_box1 (v := .int _ _) S); (case hx | h1 => rfl); clear S; intro bz wz S) | ((with_reducible apply wps_box1 (v := .bool _) S); (case hx | h1 => rfl); clear S; intro bz wz S) | ((with_reducible apply wps_box1 (v := .slice _ _ _) S); (case hx | h1 => rfl); clear S; intro bz wz S) | ((with_reducible apply wps_box1 (v := .pointer _) S); (case hx | h1 => rfl); clear S; intro bz wz S) | ((with_reducible apply wps_box1 (v := .map _) S); (case hx | h1 => rfl); clear S; intro bz wz S) | ((with_reducible apply wps_box1 (v := .string _) S); (case hx | h1 => rfl); clear S; intro bz wz S) | ((with_reducible apply wps_box1 (v := .func _ _ _) S); (case hx | h1 => rfl); clear S; intro bz wz S) | ((with_reducible apply wps_load S 0); (case hx | hi | hu => rfl); (case hT => decide +kernel)) | ((with_reducible apply wps_loada (T := 42) (k := 3) S 0); (case hx | hi => rfl); (case hk => exact Nat.le_of_ble_eq_true rfl); (case hT => decide +kernel)) | ((with_reducible apply wps_load S 1); (case hx | hi | hu => rfl); (case hT => decide +kernel)) | ((with_reducible apply wps_loada (T := 42) (k := 3) S 1); (case hx | hi => rfl); (case hk => exact Nat.le_of_ble_eq_true rfl); (case hT => decide +kernel))
      go_ret
      first
        | exact ⟨rfl, S.below⟩
        | exact ⟨congrArg (fun b => Ending.returned (.bool b)) (decide_eq_false (by omega)), S.below⟩
set_option maxRecDepth 100000 in
set_option maxHeartbeats 16000000 in
theorem stext_calls (tE : TypeId) (pE : Value) (d : DoE) (w : World) (F F2 : Nat → Prop) (h : (LibA tE pE).at_ w F) (h2 : FormsT.at_ w F2) (hm : mayE d = true) :
    Calls Tryd.prog 20 #[.agg #[.int .i64 d.what, .int .i64 d.a, .int .i64 d.b]] w fun e w' => e = .returned (strV (textE d)) ∧ Below w.heap.size w w' := by
  obtain ⟨h0, h3, ha0, ha1, hb0, hb1⟩ := may_of hm
  obtain ⟨wt, a, b⟩ := d
  simp only [toldE] at h0 h3 ha0 ha1 hb0 hb1 ⊢
  obtain ⟨k, rfl⟩ : ∃ k : Nat, wt = k := ⟨wt.toNat, by omega⟩
  have hk : k < 4 := by omega
  have hk5 : (k : Int) < 4 := by omega
  obtain ⟨⟨fw, m⟩, hfm⟩ : ∃ x, formsL[k]? = some x := ⟨_, List.getElem?_eq_getElem (by rw [forms_len]; exact hk)⟩
  have hmm : m = manyI (k : Int) := by rw [many_nat hk]; exact forms_many hfm
  have hfn : fw = nameI (k : Int) := forms_name hfm
  have HT : Hid (textE ⟨k, a, b⟩ = fw ++ (if 0 < m then 32 :: numT a else []) ++ (if 1 < m then 32 :: numT b else [])) := Lib.hid (by unfold textE; rw [hmm, hfn])
  rw [← hmm] at ha0 ha1 hb0 hb1
  have hfl : fw.length ≤ 7 := by
    rw [hfn]; unfold nameI; repeat' split
    all_goals decide
  have HFM := Lib.hid hfm
  have S : St (fun _ => False) w w [LibA tE pE, FormsT] := ((St.init _ w).share (A := FormsT) rfl rfl h2).share (A := LibA tE pE) rfl rfl h
  clear hmm hfn hfm h h2 hm
  by_cases h1 : 0 < m
  · rw [if_neg (by omega)] at ha0 ha1
    have HA := Lib.hid (fun w F h => itoa_calls tE pE a w F h ha0 (by omega))
    have hla := numT_len (n := a) (by omega)
    have c1 : (0 : Int) < m := by omega
    by_cases h2 : 1 < m
    · rw [if_neg (by omega)] at hb0 hb1
      have HB := Lib.hid (fun w F h => itoa_calls tE pE b w F h hb0 (by omega))
      have hlb := numT_len (n := b) (by omega)
      have c2 : (1 : Int) < m := by omega
      have HT2 : Hid (textE ⟨k, a, b⟩ = fw ++ 32 :: (numT a ++ 32 :: numT b)) := Lib.hid (by rw [HT.out, if_pos h1, if_pos h2]; simp)
      rw [HT2.out]
      clear HT HT2 h1 h2
      generalize numT a = A at *
      generalize numT b = B at *
      go_enter Tryd.func20, Tryd.ntmps20
      go_wp2_with first | ((with_reducible apply wps_load_el S 2 (hj := HFM.out) (q := 0) (u := strV fw)); (case hx | hi => rfl); (case hn => omega); (case hu => rfl); (case hT => decide +kernel)) | ((with_reducible apply wps_load_el S 2 (hj := HFM.out) (q := 1) (u := .int .i64 m)); (case hx | hi => rfl); (case hn => omega); (case hu => rfl); (case hT => decide +kernel)) | (go_at_call 21; refine Calls.mono (HA.out _ _ (S.get (i := 1) rfl).choose_spec) ?_; rintro e wz ⟨rfl, hE⟩; replace S := S.ext (Keep.of_below hE); clear hE) | (go_at_call 21; refine Calls.mono (HB.out _ _ (S.get (i := 1) rfl).choose_spec) ?_; rintro e wz ⟨rfl, hE⟩; replace S := S.ext (Keep.of_below hE); clear hE) | ((with_reducible apply wps_sadd (T := 9)); (case hx | hy => rfl); (case hn => first | omega | (simp; omega))) | ((with_reducible refine tot_done ?ht ?_); (case ht => kernel_rfl)) | ((with_reducible apply wps_boxa S); (case hx => rfl); clear S; intro bz wz S) | ((with_reducible apply wps_box1 (v := .int _ _) S); (case hx | h1 => rfl); clear S; intro bz wz S) | ((with_reducible apply wps_box1 (v := .bool _) S); (case hx | h1 => rfl); clear S; intro bz wz S) | ((with_reducible apply wps_box1 (v := .slice _ _ _) S); (case hx | h1 => rfl); clear S; intro bz wz S) | ((with_reducible apply wps_box1 (v := .pointer _) S); (case hx | h1 => rfl); clear S; intro bz wz S) | ((with_reducible apply wps_box1 (v := .map _) S); (case hx | h1 => rfl); clear S; intro bz wz S) | ((with_reducible apply wps_box1 (v := .string _) S); (case hx | h1 => rfl); clear S; intro bz wz S) | ((with_reducible apply wps_box1 (v := .func _ _ _) S); (case hx | h1 => rfl); clear S; intro bz wz S) | ((with_reducible apply wps_load S 0); (case hx | hi | hu => rfl); (case hT => decide +kernel))
      go_ret
      exact ⟨rfl, S.below⟩
    · have c2 : ¬ (1 : Int) < m := by omega
      have HT2 : Hid (textE ⟨k, a, b⟩ = fw ++ 32 :: numT a) := Lib.hid (by rw [HT.out, if_pos h1, if_neg h2]; simp)
      rw [HT2.out]
      clear HT HT2 h1 h2
      generalize numT a = A at *
      go_enter Tryd.func20, Tryd.ntmps20
      go_wp2_with first | ((with_reducible apply wps_load_el S 2 (hj := HFM.out) (q := 0) (u := strV fw)); (case hx | hi => rfl); (case hn => omega); (case hu => rfl); (case hT => decide +kernel)) | ((with_reducible apply wps_load_el S 2 (hj := HFM.out) (q := 1) (u := .int .i64 m)); (case hx | hi => rfl); (case hn => omega); (case hu => rfl); (case hT => decide +kernel)) | (go_at_call 21; refine Calls.mono (HA.out _ _ (S.get (i := 1) rfl).choose_spec) ?_; rintro e wz ⟨rfl, hE⟩; replace S := S.ext (Keep.of_below hE); clear hE) | ((with_reducible apply wps_sadd (T := 9)); (case hx | hy => rfl); (case hn => first | omega | (simp; omega))) | ((with_reducible refine tot_done ?ht ?_); (case ht => kernel_rfl)) | ((with_reducible apply wps_boxa S); (case hx => rfl); clear S; intro bz wz S) | ((with_reducible apply wps_box1 (v := .int _ _) S); (case hx | h1 => rfl); clear S; intro bz wz S) | ((with_reducible apply wps_box1 (v := .bool _) S); (case hx | h1 => rfl); clear S; intro bz wz S) | ((with_reducible apply wps_box1 (v := .slice _ _ _) S); (case hx | h1 => rfl); clear S; intro bz wz S) | ((with_reducible apply wps_box1 (v := .pointer _) S); (case hx | h1 => rfl); clear S; intro bz wz S) | ((with_reducible apply wps_box1 (v := .map _) S); (case hx | h1 => rfl); clear S; intro bz wz S) | ((with_reducible apply wps_box1 (v := .string _) S); (case hx | h1 => rfl); clear S; intro bz wz S) | ((with_reducible apply wps_box1 (v := .func _ _ _) S); (case hx | h1 => rfl); clear S; intro bz wz S) | ((with_reducible apply wps_load S 0); (case hx | hi | hu => rfl); (case hT => decide +kernel))
      go_ret
      exact ⟨rfl, S.below⟩
  · have c1 : ¬ (0 : Int) < m := by omega
    have c2 : ¬ (1 : Int) < m := by omega
    have HT2 : Hid (textE ⟨k, a, b⟩ = fw) := Lib.hid (by rw [HT.out, if_neg h1, if_neg (by omega)]; simp)
    rw [HT2.out]
    clear HT HT2 h1
    go_enter Tryd.func20, Tryd.ntmps20
    go_wp2_with first | ((with_reducible apply wps_load_el S 2 (hj := HFM.out) (q := 0) (u := strV fw)); (case hx | hi => rfl); (case hn => omega); (case hu => rfl); (case hT => decide +kernel)) | ((with_reducible apply wps_load_el S 2 (hj := HFM.out) (q := 1) (u := .int .i64 m)); (case hx | hi => rfl); (case hn => omega); (case hu => rfl); (case hT => decide +kernel)) | ((with_reducible refine tot_done ?ht ?_); (case ht => kernel_rfl)) | ((with_reducible apply wps_boxa S); (case hx => rfl); clear S; intro bz wz S) | ((with_reducible apply wps_box1 (v := .int _ _) S); (case hx | h1 => rfl); clear S; intro bz wz S) | ((with_reducible apply wps_box1 (v := .bool _) S); (case hx | h1 => rfl); clear S; intro bz wz S) | ((with_reducible apply wps_box1 (v := .slice _ _ _) S); (case hx | h1 => rfl); clear S; intro bz wz S) | ((with_reducible apply wps_box1 (v := .pointer _) S); (case hx | h1 => rfl); clear S; intro bz wz S) | ((with_reducible apply wps_box1 (v := .map _) S); (case hx | h1 => rfl); clear S; intro bz wz S) | ((with_reducible apply wps_box1 (v := .string _) S); (case hx | h1 => rfl); clear S; intro bz wz S) | ((with_reducible apply wps_box1 (v := .func _ _ _) S); (case hx | h1 => rfl); clear S; intro bz wz S) | ((with_reducible apply wps_load S 0); (case hx | hi | hu => rfl); (case hT => decide +kernel))
    go_ret
    exact ⟨rfl, S.below⟩
end Go.Proofs.YtkcnbejpmknaoaaDoor

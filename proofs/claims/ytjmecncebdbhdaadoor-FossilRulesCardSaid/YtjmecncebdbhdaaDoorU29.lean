import Derived.Test.YtjmecncebdbhdaaDoorU28
/- The walk of the reference's Check of configurations. -/
namespace Go.Proofs.YtjmecncebdbhdaaDoor
open Go Go.RowKit Reg Mem

def RcRel (bx : Nat) (vP vL vS : Value) (hs : List Value) (c : Cfg) (n : Nat) (D : Nat → Prop) (w : World) (i : Value) (wr : World) : Prop :=
  ∃ j : Nat, j ≤ n ∧ i = .int .i64 j ∧ Hid (D j) ∧ St (fun _ => False) w wr [Blk false bx #[vP, vL, vS, .int .i64 c.fin, .int .i64 c.fuel, .int .i64 c.fan] 37, Sls true Instr.cells 5 hs c.programs, Sl true vcell 1 vP hs, Sl true Place.cells 5 vL c.lps, Sl true Start.cells 4 vS c.starts]
set_option maxRecDepth 100000 in
set_option maxHeartbeats 16000000 in
theorem refcheck_calls (vs hs : List Value) (c : Cfg) (w : World) (F : Nat → Prop) (h : (CfgA true vs hs c).at_ w F) (hm : Mid c) : Calls Tryd.prog 21 #[.agg vs.toArray] w fun r w' => r = .returned (.int .i64 (cfgE c)) ∧ Below w.heap.size w w' := by
  have S : St (fun _ => False) w w [CfgA true vs hs c] := (St.init _ w).share rfl rfl h
  obtain ⟨aP, cP, aL, cL, aS, cS, rfl, hlen, S⟩ := S.cfg 0 rfl
  replace S := S.pick [0, 1, 2, 3] rfl
  simp only [pick, nth] at S
  clear h
  have hp1 := hm.p
  have hp2 := hm.l
  have hp3 := hm.s
  clear hm
  by_cases hz : sizesOk c
  case neg =>
    have HE := Lib.hid (cfg_sizes hz)
    unfold sizesOk at hz
    by_cases g0 : (c.lps.length : Int) < 1
    · go_enter Tryd.func21, Tryd.ntmps21
      go_wp2_with first | go_skip | ((with_reducible refine wpList_skip ?hw ?_); (case hw => with_unfolding_all rfl); simp only [Act.put, List.setIfInBounds_toArray, List.set_cons_succ, List.set_cons_zero]) | ((with_reducible apply wps_boxa S); (case hx => rfl); clear S; intro bx wz S) | ((with_reducible refine tot_done ?ht ?_); (case ht => kernel_rfl)) | ((with_reducible apply wps_text S); (case hm => kernel_rfl); (case hB => decide +kernel); clear S; intro wz S) | ((with_reducible apply wps_boxa S); (case hx => rfl); clear S; intro bz wz S) | ((with_reducible apply wps_box1 (v := .int _ _) S); (case hx | h1 => rfl); clear S; intro bz wz S) | ((with_reducible apply wps_box1 (v := .bool _) S); (case hx | h1 => rfl); clear S; intro bz wz S) | ((with_reducible apply wps_box1 (v := .slice _ _ _) S); (case hx | h1 => rfl); clear S; intro bz wz S) | ((with_reducible apply wps_box1 (v := .pointer _) S); (case hx | h1 => rfl); clear S; intro bz wz S) | ((with_reducible apply wps_box1 (v := .map _) S); (case hx | h1 => rfl); clear S; intro bz wz S) | ((with_reducible apply wps_box1 (v := .string _) S); (case hx | h1 => rfl); clear S; intro bz wz S) | ((with_reducible apply wps_box1 (v := .func _ _ _) S); (case hx | h1 => rfl); clear S; intro bz wz S) | ((with_reducible apply wps_load S 0); (case hx | hi | hu => rfl); (case hT => decide +kernel))
      go_ret
      exact ⟨ret_int HE.out.symm, S.below⟩
    by_cases g1 : (32 : Int) < c.lps.length
    · go_enter Tryd.func21, Tryd.ntmps21
      go_wp2_with first | go_skip | ((with_reducible refine wpList_skip ?hw ?_); (case hw => with_unfolding_all rfl); simp only [Act.put, List.setIfInBounds_toArray, List.set_cons_succ, List.set_cons_zero]) | ((with_reducible apply wps_boxa S); (case hx => rfl); clear S; intro bx wz S) | ((with_reducible refine tot_done ?ht ?_); (case ht => kernel_rfl)) | ((with_reducible apply wps_text S); (case hm => kernel_rfl); (case hB => decide +kernel); clear S; intro wz S) | ((with_reducible apply wps_boxa S); (case hx => rfl); clear S; intro bz wz S) | ((with_reducible apply wps_box1 (v := .int _ _) S); (case hx | h1 => rfl); clear S; intro bz wz S) | ((with_reducible apply wps_box1 (v := .bool _) S); (case hx | h1 => rfl); clear S; intro bz wz S) | ((with_reducible apply wps_box1 (v := .slice _ _ _) S); (case hx | h1 => rfl); clear S; intro bz wz S) | ((with_reducible apply wps_box1 (v := .pointer _) S); (case hx | h1 => rfl); clear S; intro bz wz S) | ((with_reducible apply wps_box1 (v := .map _) S); (case hx | h1 => rfl); clear S; intro bz wz S) | ((with_reducible apply wps_box1 (v := .string _) S); (case hx | h1 => rfl); clear S; intro bz wz S) | ((with_reducible apply wps_box1 (v := .func _ _ _) S); (case hx | h1 => rfl); clear S; intro bz wz S) | ((with_reducible apply wps_load S 0); (case hx | hi | hu => rfl); (case hT => decide +kernel))
      go_ret
      exact ⟨ret_int HE.out.symm, S.below⟩
    by_cases g2 : (c.programs.length : Int) < 1
    · go_enter Tryd.func21, Tryd.ntmps21
      go_wp2_with first | go_skip | ((with_reducible refine wpList_skip ?hw ?_); (case hw => with_unfolding_all rfl); simp only [Act.put, List.setIfInBounds_toArray, List.set_cons_succ, List.set_cons_zero]) | ((with_reducible apply wps_boxa S); (case hx => rfl); clear S; intro bx wz S) | ((with_reducible refine tot_done ?ht ?_); (case ht => kernel_rfl)) | ((with_reducible apply wps_text S); (case hm => kernel_rfl); (case hB => decide +kernel); clear S; intro wz S) | ((with_reducible apply wps_boxa S); (case hx => rfl); clear S; intro bz wz S) | ((with_reducible apply wps_box1 (v := .int _ _) S); (case hx | h1 => rfl); clear S; intro bz wz S) | ((with_reducible apply wps_box1 (v := .bool _) S); (case hx | h1 => rfl); clear S; intro bz wz S) | ((with_reducible apply wps_box1 (v := .slice _ _ _) S); (case hx | h1 => rfl); clear S; intro bz wz S) | ((with_reducible apply wps_box1 (v := .pointer _) S); (case hx | h1 => rfl); clear S; intro bz wz S) | ((with_reducible apply wps_box1 (v := .map _) S); (case hx | h1 => rfl); clear S; intro bz wz S) | ((with_reducible apply wps_box1 (v := .string _) S); (case hx | h1 => rfl); clear S; intro bz wz S) | ((with_reducible apply wps_box1 (v := .func _ _ _) S); (case hx | h1 => rfl); clear S; intro bz wz S) | ((with_reducible apply wps_load S 0); (case hx | hi | hu => rfl); (case hT => decide +kernel))
      go_ret
      exact ⟨ret_int HE.out.symm, S.below⟩
    by_cases g3 : (32 : Int) < c.programs.length
    · go_enter Tryd.func21, Tryd.ntmps21
      go_wp2_with first | go_skip | ((with_reducible refine wpList_skip ?hw ?_); (case hw => with_unfolding_all rfl); simp only [Act.put, List.setIfInBounds_toArray, List.set_cons_succ, List.set_cons_zero]) | ((with_reducible apply wps_boxa S); (case hx => rfl); clear S; intro bx wz S) | ((with_reducible refine tot_done ?ht ?_); (case ht => kernel_rfl)) | ((with_reducible apply wps_text S); (case hm => kernel_rfl); (case hB => decide +kernel); clear S; intro wz S) | ((with_reducible apply wps_boxa S); (case hx => rfl); clear S; intro bz wz S) | ((with_reducible apply wps_box1 (v := .int _ _) S); (case hx | h1 => rfl); clear S; intro bz wz S) | ((with_reducible apply wps_box1 (v := .bool _) S); (case hx | h1 => rfl); clear S; intro bz wz S) | ((with_reducible apply wps_box1 (v := .slice _ _ _) S); (case hx | h1 => rfl); clear S; intro bz wz S) | ((with_reducible apply wps_box1 (v := .pointer _) S); (case hx | h1 => rfl); clear S; intro bz wz S) | ((with_reducible apply wps_box1 (v := .map _) S); (case hx | h1 => rfl); clear S; intro bz wz S) | ((with_reducible apply wps_box1 (v := .string _) S); (case hx | h1 => rfl); clear S; intro bz wz S) | ((with_reducible apply wps_box1 (v := .func _ _ _) S); (case hx | h1 => rfl); clear S; intro bz wz S) | ((with_reducible apply wps_load S 0); (case hx | hi | hu => rfl); (case hT => decide +kernel))
      go_ret
      exact ⟨ret_int HE.out.symm, S.below⟩
    by_cases g4 : c.fin < 1
    · go_enter Tryd.func21, Tryd.ntmps21
      go_wp2_with first | go_skip | ((with_reducible refine wpList_skip ?hw ?_); (case hw => with_unfolding_all rfl); simp only [Act.put, List.setIfInBounds_toArray, List.set_cons_succ, List.set_cons_zero]) | ((with_reducible apply wps_boxa S); (case hx => rfl); clear S; intro bx wz S) | ((with_reducible refine tot_done ?ht ?_); (case ht => kernel_rfl)) | ((with_reducible apply wps_text S); (case hm => kernel_rfl); (case hB => decide +kernel); clear S; intro wz S) | ((with_reducible apply wps_boxa S); (case hx => rfl); clear S; intro bz wz S) | ((with_reducible apply wps_box1 (v := .int _ _) S); (case hx | h1 => rfl); clear S; intro bz wz S) | ((with_reducible apply wps_box1 (v := .bool _) S); (case hx | h1 => rfl); clear S; intro bz wz S) | ((with_reducible apply wps_box1 (v := .slice _ _ _) S); (case hx | h1 => rfl); clear S; intro bz wz S) | ((with_reducible apply wps_box1 (v := .pointer _) S); (case hx | h1 => rfl); clear S; intro bz wz S) | ((with_reducible apply wps_box1 (v := .map _) S); (case hx | h1 => rfl); clear S; intro bz wz S) | ((with_reducible apply wps_box1 (v := .string _) S); (case hx | h1 => rfl); clear S; intro bz wz S) | ((with_reducible apply wps_box1 (v := .func _ _ _) S); (case hx | h1 => rfl); clear S; intro bz wz S) | ((with_reducible apply wps_load S 0); (case hx | hi | hu => rfl); (case hT => decide +kernel))
      go_ret
      exact ⟨ret_int HE.out.symm, S.below⟩
    by_cases g5 : 1073741824 < c.fin
    · go_enter Tryd.func21, Tryd.ntmps21
      go_wp2_with first | go_skip | ((with_reducible refine wpList_skip ?hw ?_); (case hw => with_unfolding_all rfl); simp only [Act.put, List.setIfInBounds_toArray, List.set_cons_succ, List.set_cons_zero]) | ((with_reducible apply wps_boxa S); (case hx => rfl); clear S; intro bx wz S) | ((with_reducible refine tot_done ?ht ?_); (case ht => kernel_rfl)) | ((with_reducible apply wps_text S); (case hm => kernel_rfl); (case hB => decide +kernel); clear S; intro wz S) | ((with_reducible apply wps_boxa S); (case hx => rfl); clear S; intro bz wz S) | ((with_reducible apply wps_box1 (v := .int _ _) S); (case hx | h1 => rfl); clear S; intro bz wz S) | ((with_reducible apply wps_box1 (v := .bool _) S); (case hx | h1 => rfl); clear S; intro bz wz S) | ((with_reducible apply wps_box1 (v := .slice _ _ _) S); (case hx | h1 => rfl); clear S; intro bz wz S) | ((with_reducible apply wps_box1 (v := .pointer _) S); (case hx | h1 => rfl); clear S; intro bz wz S) | ((with_reducible apply wps_box1 (v := .map _) S); (case hx | h1 => rfl); clear S; intro bz wz S) | ((with_reducible apply wps_box1 (v := .string _) S); (case hx | h1 => rfl); clear S; intro bz wz S) | ((with_reducible apply wps_box1 (v := .func _ _ _) S); (case hx | h1 => rfl); clear S; intro bz wz S) | ((with_reducible apply wps_load S 0); (case hx | hi | hu => rfl); (case hT => decide +kernel))
      go_ret
      exact ⟨ret_int HE.out.symm, S.below⟩
    by_cases g6 : c.fuel < 1
    · go_enter Tryd.func21, Tryd.ntmps21
      go_wp2_with first | go_skip | ((with_reducible refine wpList_skip ?hw ?_); (case hw => with_unfolding_all rfl); simp only [Act.put, List.setIfInBounds_toArray, List.set_cons_succ, List.set_cons_zero]) | ((with_reducible apply wps_boxa S); (case hx => rfl); clear S; intro bx wz S) | ((with_reducible refine tot_done ?ht ?_); (case ht => kernel_rfl)) | ((with_reducible apply wps_text S); (case hm => kernel_rfl); (case hB => decide +kernel); clear S; intro wz S) | ((with_reducible apply wps_boxa S); (case hx => rfl); clear S; intro bz wz S) | ((with_reducible apply wps_box1 (v := .int _ _) S); (case hx | h1 => rfl); clear S; intro bz wz S) | ((with_reducible apply wps_box1 (v := .bool _) S); (case hx | h1 => rfl); clear S; intro bz wz S) | ((with_reducible apply wps_box1 (v := .slice _ _ _) S); (case hx | h1 => rfl); clear S; intro bz wz S) | ((with_reducible apply wps_box1 (v := .pointer _) S); (case hx | h1 => rfl); clear S; intro bz wz S) | ((with_reducible apply wps_box1 (v := .map _) S); (case hx | h1 => rfl); clear S; intro bz wz S) | ((with_reducible apply wps_box1 (v := .string _) S); (case hx | h1 => rfl); clear S; intro bz wz S) | ((with_reducible apply wps_box1 (v := .func _ _ _) S); (case hx | h1 => rfl); clear S; intro bz wz S) | ((with_reducible apply wps_load S 0); (case hx | hi | hu => rfl); (case hT => decide +kernel))
      go_ret
      exact ⟨ret_int HE.out.symm, S.below⟩
    by_cases g7 : 1024 < c.fuel
    · go_enter Tryd.func21, Tryd.ntmps21
      go_wp2_with first | go_skip | ((with_reducible refine wpList_skip ?hw ?_); (case hw => with_unfolding_all rfl); simp only [Act.put, List.setIfInBounds_toArray, List.set_cons_succ, List.set_cons_zero]) | ((with_reducible apply wps_boxa S); (case hx => rfl); clear S; intro bx wz S) | ((with_reducible refine tot_done ?ht ?_); (case ht => kernel_rfl)) | ((with_reducible apply wps_text S); (case hm => kernel_rfl); (case hB => decide +kernel); clear S; intro wz S) | ((with_reducible apply wps_boxa S); (case hx => rfl); clear S; intro bz wz S) | ((with_reducible apply wps_box1 (v := .int _ _) S); (case hx | h1 => rfl); clear S; intro bz wz S) | ((with_reducible apply wps_box1 (v := .bool _) S); (case hx | h1 => rfl); clear S; intro bz wz S) | ((with_reducible apply wps_box1 (v := .slice _ _ _) S); (case hx | h1 => rfl); clear S; intro bz wz S) | ((with_reducible apply wps_box1 (v := .pointer _) S); (case hx | h1 => rfl); clear S; intro bz wz S) | ((with_reducible apply wps_box1 (v := .map _) S); (case hx | h1 => rfl); clear S; intro bz wz S) | ((with_reducible apply wps_box1 (v := .string _) S); (case hx | h1 => rfl); clear S; intro bz wz S) | ((with_reducible apply wps_box1 (v := .func _ _ _) S); (case hx | h1 => rfl); clear S; intro bz wz S) | ((with_reducible apply wps_load S 0); (case hx | hi | hu => rfl); (case hT => decide +kernel))
      go_ret
      exact ⟨ret_int HE.out.symm, S.below⟩
    by_cases g8 : c.fan < 0
    · go_enter Tryd.func21, Tryd.ntmps21
      go_wp2_with first | go_skip | ((with_reducible refine wpList_skip ?hw ?_); (case hw => with_unfolding_all rfl); simp only [Act.put, List.setIfInBounds_toArray, List.set_cons_succ, List.set_cons_zero]) | ((with_reducible apply wps_boxa S); (case hx => rfl); clear S; intro bx wz S) | ((with_reducible refine tot_done ?ht ?_); (case ht => kernel_rfl)) | ((with_reducible apply wps_text S); (case hm => kernel_rfl); (case hB => decide +kernel); clear S; intro wz S) | ((with_reducible apply wps_boxa S); (case hx => rfl); clear S; intro bz wz S) | ((with_reducible apply wps_box1 (v := .int _ _) S); (case hx | h1 => rfl); clear S; intro bz wz S) | ((with_reducible apply wps_box1 (v := .bool _) S); (case hx | h1 => rfl); clear S; intro bz wz S) | ((with_reducible apply wps_box1 (v := .slice _ _ _) S); (case hx | h1 => rfl); clear S; intro bz wz S) | ((with_reducible apply wps_box1 (v := .pointer _) S); (case hx | h1 => rfl); clear S; intro bz wz S) | ((with_reducible apply wps_box1 (v := .map _) S); (case hx | h1 => rfl); clear S; intro bz wz S) | ((with_reducible apply wps_box1 (v := .string _) S); (case hx | h1 => rfl); clear S; intro bz wz S) | ((with_reducible apply wps_box1 (v := .func _ _ _) S); (case hx | h1 => rfl); clear S; intro bz wz S) | ((with_reducible apply wps_load S 0); (case hx | hi | hu => rfl); (case hT => decide +kernel))
      go_ret
      exact ⟨ret_int HE.out.symm, S.below⟩
    by_cases g9 : 8 < c.fan
    · go_enter Tryd.func21, Tryd.ntmps21
      go_wp2_with first | go_skip | ((with_reducible refine wpList_skip ?hw ?_); (case hw => with_unfolding_all rfl); simp only [Act.put, List.setIfInBounds_toArray, List.set_cons_succ, List.set_cons_zero]) | ((with_reducible apply wps_boxa S); (case hx => rfl); clear S; intro bx wz S) | ((with_reducible refine tot_done ?ht ?_); (case ht => kernel_rfl)) | ((with_reducible apply wps_text S); (case hm => kernel_rfl); (case hB => decide +kernel); clear S; intro wz S) | ((with_reducible apply wps_boxa S); (case hx => rfl); clear S; intro bz wz S) | ((with_reducible apply wps_box1 (v := .int _ _) S); (case hx | h1 => rfl); clear S; intro bz wz S) | ((with_reducible apply wps_box1 (v := .bool _) S); (case hx | h1 => rfl); clear S; intro bz wz S) | ((with_reducible apply wps_box1 (v := .slice _ _ _) S); (case hx | h1 => rfl); clear S; intro bz wz S) | ((with_reducible apply wps_box1 (v := .pointer _) S); (case hx | h1 => rfl); clear S; intro bz wz S) | ((with_reducible apply wps_box1 (v := .map _) S); (case hx | h1 => rfl); clear S; intro bz wz S) | ((with_reducible apply wps_box1 (v := .string _) S); (case hx | h1 => rfl); clear S; intro bz wz S) | ((with_reducible apply wps_box1 (v := .func _ _ _) S); (case hx | h1 => rfl); clear S; intro bz wz S) | ((with_reducible apply wps_load S 0); (case hx | hi | hu => rfl); (case hT => decide +kernel))
      go_ret
      exact ⟨ret_int HE.out.symm, S.below⟩
    exfalso
    apply hz
    omega
  case pos =>
    have HZ := Lib.hid hz
    unfold sizesOk at hz
    have z1 : ¬ (c.lps.length : Int) < 1 := by omega
    have z2 : ¬ (32 : Int) < c.lps.length := by omega
    have z3 : ¬ (c.programs.length : Int) < 1 := by omega
    have z4 : ¬ (32 : Int) < c.programs.length := by omega
    have z5 : ¬ c.fin < 1 := by omega
    have z6 : ¬ 1073741824 < c.fin := by omega
    have z7 : ¬ c.fuel < 1 := by omega
    have z8 : ¬ 1024 < c.fuel := by omega
    have z9 : ¬ c.fan < 0 := by omega
    have z10 : ¬ 8 < c.fan := by omega
    clear hz
    by_cases gs : (256 : Int) < c.starts.length
    · have HE := Lib.hid (cfg_starts HZ.out (by omega))
      go_enter Tryd.func21, Tryd.ntmps21
      go_wp2_with first | go_skip | ((with_reducible refine wpList_skip ?hw ?_); (case hw => with_unfolding_all rfl); simp only [Act.put, List.setIfInBounds_toArray, List.set_cons_succ, List.set_cons_zero]) | ((with_reducible apply wps_boxa S); (case hx => rfl); clear S; intro bx wz S) | ((with_reducible refine tot_done ?ht ?_); (case ht => kernel_rfl)) | ((with_reducible apply wps_text S); (case hm => kernel_rfl); (case hB => decide +kernel); clear S; intro wz S) | ((with_reducible apply wps_boxa S); (case hx => rfl); clear S; intro bz wz S) | ((with_reducible apply wps_box1 (v := .int _ _) S); (case hx | h1 => rfl); clear S; intro bz wz S) | ((with_reducible apply wps_box1 (v := .bool _) S); (case hx | h1 => rfl); clear S; intro bz wz S) | ((with_reducible apply wps_box1 (v := .slice _ _ _) S); (case hx | h1 => rfl); clear S; intro bz wz S) | ((with_reducible apply wps_box1 (v := .pointer _) S); (case hx | h1 => rfl); clear S; intro bz wz S) | ((with_reducible apply wps_box1 (v := .map _) S); (case hx | h1 => rfl); clear S; intro bz wz S) | ((with_reducible apply wps_box1 (v := .string _) S); (case hx | h1 => rfl); clear S; intro bz wz S) | ((with_reducible apply wps_box1 (v := .func _ _ _) S); (case hx | h1 => rfl); clear S; intro bz wz S) | ((with_reducible apply wps_load S 0); (case hx | hi | hu => rfl); (case hT => decide +kernel))
      go_ret
      exact ⟨ret_int HE.out.symm, S.below⟩
    have gs2 : ¬ 256 < c.starts.length := by omega
    go_enter Tryd.func21, Tryd.ntmps21
    go_wp2_with first | go_skip | ((with_reducible refine wpList_skip ?hw ?_); (case hw => with_unfolding_all rfl); simp only [Act.put, List.setIfInBounds_toArray, List.set_cons_succ, List.set_cons_zero]) | ((with_reducible apply wps_boxa S); (case hx => rfl); clear S; intro bx wz S) | ((with_reducible refine tot_done ?ht ?_); (case ht => kernel_rfl)) | ((with_reducible apply wps_text S); (case hm => kernel_rfl); (case hB => decide +kernel); clear S; intro wz S) | ((with_reducible apply wps_boxa S); (case hx => rfl); clear S; intro bz wz S) | ((with_reducible apply wps_box1 (v := .int _ _) S); (case hx | h1 => rfl); clear S; intro bz wz S) | ((with_reducible apply wps_box1 (v := .bool _) S); (case hx | h1 => rfl); clear S; intro bz wz S) | ((with_reducible apply wps_box1 (v := .slice _ _ _) S); (case hx | h1 => rfl); clear S; intro bz wz S) | ((with_reducible apply wps_box1 (v := .pointer _) S); (case hx | h1 => rfl); clear S; intro bz wz S) | ((with_reducible apply wps_box1 (v := .map _) S); (case hx | h1 => rfl); clear S; intro bz wz S) | ((with_reducible apply wps_box1 (v := .string _) S); (case hx | h1 => rfl); clear S; intro bz wz S) | ((with_reducible apply wps_box1 (v := .func _ _ _) S); (case hx | h1 => rfl); clear S; intro bz wz S) | ((with_reducible apply wps_load S 0); (case hx | hi | hu => rfl); (case hT => decide +kernel))
    clear z1 z2 z3 z4 z5 z6 z7 z8 z9 z10
    go_loopw [3] (fun i wr => RcRel bx (.slice aP c.programs.length cP) (.slice aL c.lps.length cL) (.slice aS c.starts.length cS) hs c c.programs.length (fun j => ∀ (q : Nat) y, q < j → c.programs[q]? = some y → codeE y = 0) w i wr) (fun i _ => c.programs.length - (intOf i).toNat)
    case atStart => exact ⟨0, Nat.zero_le _, rfl, fun q y h => by omega, S⟩
    case round =>
      clear S
      obtain ⟨j, hj, rfl, Hz, S⟩ := hrel
      by_cases hlt : j < c.programs.length
      · obtain ⟨p, hp⟩ : ∃ p, c.programs[j]? = some p := ⟨_, List.getElem?_eq_getElem hlt⟩
        obtain ⟨v, hv⟩ : ∃ v, hs[j]? = some v := ⟨_, List.getElem?_eq_getElem (by omega)⟩
        obtain ⟨R, o, rfl⟩ : ∃ R o, aP = some ⟨R, o, none⟩ := (S.sl 2 rfl).elim fun F h => h.head (by omega)
        have hlt2 : (j : Int) < c.programs.length := by omega
        obtain ⟨m, hm⟩ : ∃ m, codeE p = m := ⟨_, rfl⟩
        have hc := fun w F h => rcode_calls v p w F h
        rw [hm] at hc
        have Hp := Lib.hid hp
        have Hv := Lib.hid hv
        have Hc := Lib.hid hc
        have Hm := Lib.hid hm
        clear hp hv hc hm
        by_cases h0 : m = 0
        · subst h0
          go_wp2_with first | go_skip | ((with_reducible refine wpList_skip ?hw ?_); (case hw => with_unfolding_all rfl); simp only [Act.put, List.setIfInBounds_toArray, List.set_cons_succ, List.set_cons_zero]) | ((with_reducible apply wps_load_el S 2 (hj := Hv.out) (q := 0) (u := v)); (case hx | hi => rfl); (case hn => omega); (case hu => rfl); (case hT => decide +kernel)) | (go_at_call 44; refine Calls.mono (Hc.out _ _ ((S.slsEl 1 rfl Hv.out Hp.out).get (i := 0) rfl).choose_spec) ?_; rintro e wz ⟨rfl, hE⟩; replace S := S.ext (Keep.of_below hE); clear hE) | ((with_reducible refine tot_done ?ht ?_); (case ht => kernel_rfl)) | ((with_reducible apply wps_text S); (case hm => kernel_rfl); (case hB => decide +kernel); clear S; intro wz S) | ((with_reducible apply wps_load S 0); (case hx | hi | hu => rfl); (case hT => decide +kernel))
          go_roundw
          case rel => exact ⟨j + 1, by omega, by go_num, snoc_all Hz.out Hp.out Hm.out, S⟩
          case measure => first | (simp [intOf]; done) | (simp [intOf]; omega)
        · have h1 : (m != 0) = true := by simpa using h0
          have H0 := Lib.hid h0
          clear h0
          go_wp2_with first | go_skip | ((with_reducible refine wpList_skip ?hw ?_); (case hw => with_unfolding_all rfl); simp only [Act.put, List.setIfInBounds_toArray, List.set_cons_succ, List.set_cons_zero]) | ((with_reducible apply wps_load_el S 2 (hj := Hv.out) (q := 0) (u := v)); (case hx | hi => rfl); (case hn => omega); (case hu => rfl); (case hT => decide +kernel)) | (go_at_call 44; refine Calls.mono (Hc.out _ _ ((S.slsEl 1 rfl Hv.out Hp.out).get (i := 0) rfl).choose_spec) ?_; rintro e wz ⟨rfl, hE⟩; replace S := S.ext (Keep.of_below hE); clear hE) | ((with_reducible refine tot_done ?ht ?_); (case ht => kernel_rfl)) | ((with_reducible apply wps_text S); (case hm => kernel_rfl); (case hB => decide +kernel); clear S; intro wz S) | ((with_reducible apply wps_load S 0); (case hx | hi | hu => rfl); (case hT => decide +kernel))
          go_ret
          refine ⟨ret_int (cfg_prog HZ.out gs2 ?_ H0.out).symm, S.below⟩
          refine firstE_at (j := j) (fun q y hq hy => ?_) (by rw [List.getElem?_map, Hp.out]; simp [Hm.out]) H0.out
          rw [List.getElem?_map] at hy
          cases hp : c.programs[q]? with
          | none => rw [hp] at hy; cases hy
          | some z => rw [hp] at hy; simp at hy; subst hy; exact Hz.out q z hq hp
      · obtain rfl : j = c.programs.length := by omega
        have H3 : Hid (programsE c = 0) := firstE_zero.2 fun x hx => by
          obtain ⟨p, hp, rfl⟩ := List.mem_map.1 hx
          exact all_of Hz.out p hp
        clear Hz
        go_wp2_with first | go_skip | ((with_reducible refine wpList_skip ?hw ?_); (case hw => with_unfolding_all rfl); simp only [Act.put, List.setIfInBounds_toArray, List.set_cons_succ, List.set_cons_zero]) | ((with_reducible refine tot_done ?ht ?_); (case ht => kernel_rfl)) | ((with_reducible apply wps_text S); (case hm => kernel_rfl); (case hB => decide +kernel); clear S; intro wz S) | ((with_reducible apply wps_load S 0); (case hx | hi | hu => rfl); (case hT => decide +kernel))
        go_loopw [6] (fun i wr => RcRel bx (.slice aP c.programs.length cP) (.slice aL c.lps.length cL) (.slice aS c.starts.length cS) hs c c.lps.length (fun j => ∀ (q : Nat) y, q < j → c.lps[q]? = some y → 0 ≤ y.program ∧ y.program < c.programs.length) w i wr) (fun i _ => c.lps.length - (intOf i).toNat)
        case atStart => exact ⟨0, Nat.zero_le _, rfl, fun q y h => by omega, S⟩
        case round =>
          clear S
          obtain ⟨j, hj, rfl, Hz, S⟩ := hrel
          by_cases hlt : j < c.lps.length
          · obtain ⟨p, hp⟩ : ∃ p, c.lps[j]? = some p := ⟨_, List.getElem?_eq_getElem hlt⟩
            obtain ⟨R, o, rfl⟩ : ∃ R o, aL = some ⟨R, o, none⟩ := (S.sl 3 rfl).elim fun F h => h.head (by omega)
            have hlt2 : (j : Int) < c.lps.length := by omega
            have Hp := Lib.hid hp
            clear hp
            by_cases g1 : p.program < 0
            · go_wp2_with first | go_skip | ((with_reducible refine wpList_skip ?hw ?_); (case hw => with_unfolding_all rfl); simp only [Act.put, List.setIfInBounds_toArray, List.set_cons_succ, List.set_cons_zero]) | ((with_reducible apply wps_load_el S 3 (hj := Hp.out) (q := 0) (u := .int .i64 p.program)); (case hx | hi => rfl); (case hn => omega); (case hu => rfl); (case hT => decide +kernel)) | ((with_reducible apply wps_load_el S 3 (hj := Hp.out) (q := 1) (u := .int .i64 p.first.n0)); (case hx | hi => rfl); (case hn => omega); (case hu => rfl); (case hT => decide +kernel)) | ((with_reducible apply wps_load_el S 3 (hj := Hp.out) (q := 2) (u := .int .i64 p.first.n1)); (case hx | hi => rfl); (case hn => omega); (case hu => rfl); (case hT => decide +kernel)) | ((with_reducible apply wps_load_el S 3 (hj := Hp.out) (q := 3) (u := .int .i64 p.first.n2)); (case hx | hi => rfl); (case hn => omega); (case hu => rfl); (case hT => decide +kernel)) | ((with_reducible apply wps_load_el S 3 (hj := Hp.out) (q := 4) (u := .int .i64 p.first.n3)); (case hx | hi => rfl); (case hn => omega); (case hu => rfl); (case hT => decide +kernel)) | ((with_reducible refine tot_done ?ht ?_); (case ht => kernel_rfl)) | ((with_reducible apply wps_text S); (case hm => kernel_rfl); (case hB => decide +kernel); clear S; intro wz S) | ((with_reducible apply wps_load S 0); (case hx | hi | hu => rfl); (case hT => decide +kernel))
              go_ret
              exact ⟨ret_int (cfg_ends HZ.out gs2 H3.out (by rintro ⟨h, _⟩; have := (h p (List.mem_of_getElem? Hp.out)).1; omega)).symm, S.below⟩
            by_cases g2 : (c.programs.length : Int) ≤ p.program
            · go_wp2_with first | go_skip | ((with_reducible refine wpList_skip ?hw ?_); (case hw => with_unfolding_all rfl); simp only [Act.put, List.setIfInBounds_toArray, List.set_cons_succ, List.set_cons_zero]) | ((with_reducible apply wps_load_el S 3 (hj := Hp.out) (q := 0) (u := .int .i64 p.program)); (case hx | hi => rfl); (case hn => omega); (case hu => rfl); (case hT => decide +kernel)) | ((with_reducible apply wps_load_el S 3 (hj := Hp.out) (q := 1) (u := .int .i64 p.first.n0)); (case hx | hi => rfl); (case hn => omega); (case hu => rfl); (case hT => decide +kernel)) | ((with_reducible apply wps_load_el S 3 (hj := Hp.out) (q := 2) (u := .int .i64 p.first.n1)); (case hx | hi => rfl); (case hn => omega); (case hu => rfl); (case hT => decide +kernel)) | ((with_reducible apply wps_load_el S 3 (hj := Hp.out) (q := 3) (u := .int .i64 p.first.n2)); (case hx | hi => rfl); (case hn => omega); (case hu => rfl); (case hT => decide +kernel)) | ((with_reducible apply wps_load_el S 3 (hj := Hp.out) (q := 4) (u := .int .i64 p.first.n3)); (case hx | hi => rfl); (case hn => omega); (case hu => rfl); (case hT => decide +kernel)) | ((with_reducible refine tot_done ?ht ?_); (case ht => kernel_rfl)) | ((with_reducible apply wps_text S); (case hm => kernel_rfl); (case hB => decide +kernel); clear S; intro wz S) | ((with_reducible apply wps_load S 0); (case hx | hi | hu => rfl); (case hT => decide +kernel))
              go_ret
              exact ⟨ret_int (cfg_ends HZ.out gs2 H3.out (by rintro ⟨h, _⟩; have := (h p (List.mem_of_getElem? Hp.out)).2; omega)).symm, S.below⟩
            go_wp2_with first | go_skip | ((with_reducible refine wpList_skip ?hw ?_); (case hw => with_unfolding_all rfl); simp only [Act.put, List.setIfInBounds_toArray, List.set_cons_succ, List.set_cons_zero]) | ((with_reducible apply wps_load_el S 3 (hj := Hp.out) (q := 0) (u := .int .i64 p.program)); (case hx | hi => rfl); (case hn => omega); (case hu => rfl); (case hT => decide +kernel)) | ((with_reducible apply wps_load_el S 3 (hj := Hp.out) (q := 1) (u := .int .i64 p.first.n0)); (case hx | hi => rfl); (case hn => omega); (case hu => rfl); (case hT => decide +kernel)) | ((with_reducible apply wps_load_el S 3 (hj := Hp.out) (q := 2) (u := .int .i64 p.first.n1)); (case hx | hi => rfl); (case hn => omega); (case hu => rfl); (case hT => decide +kernel)) | ((with_reducible apply wps_load_el S 3 (hj := Hp.out) (q := 3) (u := .int .i64 p.first.n2)); (case hx | hi => rfl); (case hn => omega); (case hu => rfl); (case hT => decide +kernel)) | ((with_reducible apply wps_load_el S 3 (hj := Hp.out) (q := 4) (u := .int .i64 p.first.n3)); (case hx | hi => rfl); (case hn => omega); (case hu => rfl); (case hT => decide +kernel)) | ((with_reducible refine tot_done ?ht ?_); (case ht => kernel_rfl)) | ((with_reducible apply wps_text S); (case hm => kernel_rfl); (case hB => decide +kernel); clear S; intro wz S) | ((with_reducible apply wps_load S 0); (case hx | hi | hu => rfl); (case hT => decide +kernel))
            go_roundw
            case rel => exact ⟨j + 1, by omega, by go_num, snoc_all Hz.out Hp.out ⟨by omega, by omega⟩, S⟩
            case measure => first | (simp [intOf]; done) | (simp [intOf]; omega)
          · obtain rfl : j = c.lps.length := by omega
            have H4 := Lib.hid (all_of Hz.out)
            clear Hz
            go_wp2_with first | go_skip | ((with_reducible refine wpList_skip ?hw ?_); (case hw => with_unfolding_all rfl); simp only [Act.put, List.setIfInBounds_toArray, List.set_cons_succ, List.set_cons_zero]) | ((with_reducible refine tot_done ?ht ?_); (case ht => kernel_rfl)) | ((with_reducible apply wps_text S); (case hm => kernel_rfl); (case hB => decide +kernel); clear S; intro wz S) | ((with_reducible apply wps_load S 0); (case hx | hi | hu => rfl); (case hT => decide +kernel))
            go_loopw [7] (fun i wr => RcRel bx (.slice aP c.programs.length cP) (.slice aL c.lps.length cL) (.slice aS c.starts.length cS) hs c c.starts.length (fun j => ∀ (q : Nat) (y : Start), q < j → c.starts[q]? = some y → 0 ≤ y.dst ∧ y.dst < c.lps.length) w i wr) (fun i _ => c.starts.length - (intOf i).toNat)
            case atStart => exact ⟨0, Nat.zero_le _, rfl, fun q y h => by omega, S⟩
            case round =>
              clear S
              obtain ⟨j, hj, rfl, Hz, S⟩ := hrel
              by_cases hlt : j < c.starts.length
              · obtain ⟨p, hp⟩ : ∃ p, c.starts[j]? = some p := ⟨_, List.getElem?_eq_getElem hlt⟩
                obtain ⟨R, o, rfl⟩ : ∃ R o, aS = some ⟨R, o, none⟩ := (S.sl 4 rfl).elim fun F h => h.head (by omega)
                have hlt2 : (j : Int) < c.starts.length := by omega
                have Hp := Lib.hid hp
                clear hp
                by_cases g1 : p.dst < 0
                · go_wp2_with first | go_skip | ((with_reducible refine wpList_skip ?hw ?_); (case hw => with_unfolding_all rfl); simp only [Act.put, List.setIfInBounds_toArray, List.set_cons_succ, List.set_cons_zero]) | ((with_reducible apply wps_load_el S 4 (hj := Hp.out) (q := 0) (u := .int .i64 p.dst)); (case hx | hi => rfl); (case hn => omega); (case hu => rfl); (case hT => decide +kernel)) | ((with_reducible apply wps_load_el S 4 (hj := Hp.out) (q := 1) (u := .int .i64 p.at_)); (case hx | hi => rfl); (case hn => omega); (case hu => rfl); (case hT => decide +kernel)) | ((with_reducible refine tot_done ?ht ?_); (case ht => kernel_rfl)) | ((with_reducible apply wps_text S); (case hm => kernel_rfl); (case hB => decide +kernel); clear S; intro wz S) | ((with_reducible apply wps_load S 0); (case hx | hi | hu => rfl); (case hT => decide +kernel))
                  go_ret
                  exact ⟨ret_int (cfg_ends HZ.out gs2 H3.out (by rintro ⟨_, h⟩; have := (h p (List.mem_of_getElem? Hp.out)).1; omega)).symm, S.below⟩
                by_cases g2 : (c.lps.length : Int) ≤ p.dst
                · go_wp2_with first | go_skip | ((with_reducible refine wpList_skip ?hw ?_); (case hw => with_unfolding_all rfl); simp only [Act.put, List.setIfInBounds_toArray, List.set_cons_succ, List.set_cons_zero]) | ((with_reducible apply wps_load_el S 4 (hj := Hp.out) (q := 0) (u := .int .i64 p.dst)); (case hx | hi => rfl); (case hn => omega); (case hu => rfl); (case hT => decide +kernel)) | ((with_reducible apply wps_load_el S 4 (hj := Hp.out) (q := 1) (u := .int .i64 p.at_)); (case hx | hi => rfl); (case hn => omega); (case hu => rfl); (case hT => decide +kernel)) | ((with_reducible refine tot_done ?ht ?_); (case ht => kernel_rfl)) | ((with_reducible apply wps_text S); (case hm => kernel_rfl); (case hB => decide +kernel); clear S; intro wz S) | ((with_reducible apply wps_load S 0); (case hx | hi | hu => rfl); (case hT => decide +kernel))
                  go_ret
                  exact ⟨ret_int (cfg_ends HZ.out gs2 H3.out (by rintro ⟨_, h⟩; have := (h p (List.mem_of_getElem? Hp.out)).2; omega)).symm, S.below⟩
                go_wp2_with first | go_skip | ((with_reducible refine wpList_skip ?hw ?_); (case hw => with_unfolding_all rfl); simp only [Act.put, List.setIfInBounds_toArray, List.set_cons_succ, List.set_cons_zero]) | ((with_reducible apply wps_load_el S 4 (hj := Hp.out) (q := 0) (u := .int .i64 p.dst)); (case hx | hi => rfl); (case hn => omega); (case hu => rfl); (case hT => decide +kernel)) | ((with_reducible apply wps_load_el S 4 (hj := Hp.out) (q := 1) (u := .int .i64 p.at_)); (case hx | hi => rfl); (case hn => omega); (case hu => rfl); (case hT => decide +kernel)) | ((with_reducible refine tot_done ?ht ?_); (case ht => kernel_rfl)) | ((with_reducible apply wps_text S); (case hm => kernel_rfl); (case hB => decide +kernel); clear S; intro wz S) | ((with_reducible apply wps_load S 0); (case hx | hi | hu => rfl); (case hT => decide +kernel))
                go_roundw
                case rel => exact ⟨j + 1, by omega, by go_num, snoc_all Hz.out Hp.out ⟨by omega, by omega⟩, S⟩
                case measure => first | (simp [intOf]; done) | (simp [intOf]; omega)
              · obtain rfl : j = c.starts.length := by omega
                have H5 := Lib.hid (all_of Hz.out)
                clear Hz
                go_wp2_with first | go_skip | ((with_reducible refine wpList_skip ?hw ?_); (case hw => with_unfolding_all rfl); simp only [Act.put, List.setIfInBounds_toArray, List.set_cons_succ, List.set_cons_zero]) | ((with_reducible refine tot_done ?ht ?_); (case ht => kernel_rfl)) | ((with_reducible apply wps_text S); (case hm => kernel_rfl); (case hB => decide +kernel); clear S; intro wz S) | ((with_reducible apply wps_load S 0); (case hx | hi | hu => rfl); (case hT => decide +kernel))
                go_loopw [8] (fun i wr => RcRel bx (.slice aP c.programs.length cP) (.slice aL c.lps.length cL) (.slice aS c.starts.length cS) hs c c.starts.length (fun j => ∀ (q : Nat) (y : Start), q < j → c.starts[q]? = some y → 0 ≤ y.at_ ∧ y.at_ ≤ c.fin) w i wr) (fun i _ => c.starts.length - (intOf i).toNat)
                case atStart => exact ⟨0, Nat.zero_le _, rfl, fun q y h => by omega, S⟩
                case round =>
                  clear S
                  obtain ⟨j, hj, rfl, Hz, S⟩ := hrel
                  by_cases hlt : j < c.starts.length
                  · obtain ⟨p, hp⟩ : ∃ p, c.starts[j]? = some p := ⟨_, List.getElem?_eq_getElem hlt⟩
                    obtain ⟨R, o, rfl⟩ : ∃ R o, aS = some ⟨R, o, none⟩ := (S.sl 4 rfl).elim fun F h => h.head (by omega)
                    have hlt2 : (j : Int) < c.starts.length := by omega
                    have Hp := Lib.hid hp
                    clear hp
                    by_cases g1 : p.at_ < 0
                    · go_wp2_with first | go_skip | ((with_reducible refine wpList_skip ?hw ?_); (case hw => with_unfolding_all rfl); simp only [Act.put, List.setIfInBounds_toArray, List.set_cons_succ, List.set_cons_zero]) | ((with_reducible apply wps_load_el S 4 (hj := Hp.out) (q := 0) (u := .int .i64 p.dst)); (case hx | hi => rfl); (case hn => omega); (case hu => rfl); (case hT => decide +kernel)) | ((with_reducible apply wps_load_el S 4 (hj := Hp.out) (q := 1) (u := .int .i64 p.at_)); (case hx | hi => rfl); (case hn => omega); (case hu => rfl); (case hT => decide +kernel)) | ((with_reducible refine tot_done ?ht ?_); (case ht => kernel_rfl)) | ((with_reducible apply wps_text S); (case hm => kernel_rfl); (case hB => decide +kernel); clear S; intro wz S) | ((with_reducible apply wps_load S 0); (case hx | hi | hu => rfl); (case hT => decide +kernel))
                      go_ret
                      exact ⟨ret_int (cfg_times HZ.out gs2 H3.out ⟨H4.out, H5.out⟩ (by intro h; have := (h p (List.mem_of_getElem? Hp.out)).1; omega)).symm, S.below⟩
                    by_cases g2 : c.fin < p.at_
                    · go_wp2_with first | go_skip | ((with_reducible refine wpList_skip ?hw ?_); (case hw => with_unfolding_all rfl); simp only [Act.put, List.setIfInBounds_toArray, List.set_cons_succ, List.set_cons_zero]) | ((with_reducible apply wps_load_el S 4 (hj := Hp.out) (q := 0) (u := .int .i64 p.dst)); (case hx | hi => rfl); (case hn => omega); (case hu => rfl); (case hT => decide +kernel)) | ((with_reducible apply wps_load_el S 4 (hj := Hp.out) (q := 1) (u := .int .i64 p.at_)); (case hx | hi => rfl); (case hn => omega); (case hu => rfl); (case hT => decide +kernel)) | ((with_reducible refine tot_done ?ht ?_); (case ht => kernel_rfl)) | ((with_reducible apply wps_text S); (case hm => kernel_rfl); (case hB => decide +kernel); clear S; intro wz S) | ((with_reducible apply wps_load S 0); (case hx | hi | hu => rfl); (case hT => decide +kernel))
                      go_ret
                      exact ⟨ret_int (cfg_times HZ.out gs2 H3.out ⟨H4.out, H5.out⟩ (by intro h; have := (h p (List.mem_of_getElem? Hp.out)).2; omega)).symm, S.below⟩
                    go_wp2_with first | go_skip | ((with_reducible refine wpList_skip ?hw ?_); (case hw => with_unfolding_all rfl); simp only [Act.put, List.setIfInBounds_toArray, List.set_cons_succ, List.set_cons_zero]) | ((with_reducible apply wps_load_el S 4 (hj := Hp.out) (q := 0) (u := .int .i64 p.dst)); (case hx | hi => rfl); (case hn => omega); (case hu => rfl); (case hT => decide +kernel)) | ((with_reducible apply wps_load_el S 4 (hj := Hp.out) (q := 1) (u := .int .i64 p.at_)); (case hx | hi => rfl); (case hn => omega); (case hu => rfl); (case hT => decide +kernel)) | ((with_reducible refine tot_done ?ht ?_); (case ht => kernel_rfl)) | ((with_reducible apply wps_text S); (case hm => kernel_rfl); (case hB => decide +kernel); clear S; intro wz S) | ((with_reducible apply wps_load S 0); (case hx | hi | hu => rfl); (case hT => decide +kernel))
                    go_roundw
                    case rel => exact ⟨j + 1, by omega, by go_num, snoc_all Hz.out Hp.out ⟨by omega, by omega⟩, S⟩
                    case measure => first | (simp [intOf]; done) | (simp [intOf]; omega)
                  · obtain rfl : j = c.starts.length := by omega
                    go_wp2_with first | go_skip | ((with_reducible refine wpList_skip ?hw ?_); (case hw => with_unfolding_all rfl); simp only [Act.put, List.setIfInBounds_toArray, List.set_cons_succ, List.set_cons_zero]) | ((with_reducible refine tot_done ?ht ?_); (case ht => kernel_rfl)) | ((with_reducible apply wps_text S); (case hm => kernel_rfl); (case hB => decide +kernel); clear S; intro wz S) | ((with_reducible apply wps_load S 0); (case hx | hi | hu => rfl); (case hT => decide +kernel))
                    go_ret
                    exact ⟨ret_int (cfg_fine HZ.out gs2 H3.out ⟨H4.out, H5.out⟩ (all_of Hz.out)).symm, S.below⟩
end Go.Proofs.YtjmecncebdbhdaaDoor

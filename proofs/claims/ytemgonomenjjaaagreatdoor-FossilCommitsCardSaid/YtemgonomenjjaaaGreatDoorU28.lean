import Derived.Test.YtemgonomenjjaaaGreatDoorU27
import Derived.Test.YtemgonomenjjaaaGreatDoorU15
import Derived.Test.YtemgonomenjjaaaGreatDoorU14
import Derived.Test.YtemgonomenjjaaaGreatDoorU09
import Derived.Test.YtemgonomenjjaaaGreatDoorU06
/- The walk of the reference's Check of configurations. -/
namespace Go.Proofs.YtemgonomenjjaaaGreatDoor
open Go Go.RowKit Reg Mem

def RcRel (bx : Nat) (vP vL vS : Value) (hs : List Value) (c : Cfg) (n : Nat) (D : Nat → Prop) (w : World) (i : Value) (wr : World) : Prop :=
  ∃ j : Nat, j ≤ n ∧ i = .int .i64 j ∧ Hid (D j) ∧ St (fun _ => False) w wr [Blk false bx #[vP, vL, vS, .int .i64 c.fin, .int .i64 c.fuel, .int .i64 c.fan] 34, Sls true Instr.cells 5 hs c.programs, Sl true vcell 1 vP hs, Sl true Place.cells 5 vL c.lps, Sl true Start.cells 4 vS c.starts]
set_option maxRecDepth 100000 in
set_option maxHeartbeats 16000000 in
theorem refcheck_calls (vs hs : List Value) (c : Cfg) (w : World) (F : Nat → Prop) (h : (CfgA true vs hs c).at_ w F) (hm : Mid c) : Calls Tryz.prog 24 #[.agg vs.toArray] w fun r w' => r = .returned (.int .i64 (cfgE c)) ∧ Below w.heap.size w w' := by
  have S : St (fun _ => False) w w [CfgA true vs hs c] := (St.init _ w).share rfl rfl h
  obtain ⟨aP, cP, aL, cL, aS, cS, rfl, hlen, S⟩ := S.cfg 0 rfl
  replace S := S.pick [0, 1, 2, 3] rfl
  simp only [pick, nth] at S
  clear h
  have hp1 := hm.p
  have hp2 := hm.l
  have hp3 := hm.s
  clear hm
  by_cases hz : sizesOk c
  case neg =>
    have HE := Lib.hid (cfg_sizes hz)
    unfold sizesOk at hz
    by_cases g0 : (c.lps.length : Int) < 1
    · go_enter Tryz.func24, Tryz.ntmps24
      go_wp2_with first | go_skip | ((with_reducible apply wps_boxa S); (case hx => rfl); clear S; intro bx wz S) | ((with_reducible apply wps_load S 0); (case hx | hi | hu => rfl); (case hT => decide +kernel))
      go_ret
      exact ⟨ret_int HE.out.symm, S.below⟩
    by_cases g1 : (32 : Int) < c.lps.length
    · go_enter Tryz.func24, Tryz.ntmps24
      go_wp2_with first | go_skip | ((with_reducible apply wps_boxa S); (case hx => rfl); clear S; intro bx wz S) | ((with_reducible apply wps_load S 0); (case hx | hi | hu => rfl); (case hT => decide +kernel))
      go_ret
      exact ⟨ret_int HE.out.symm, S.below⟩
    by_cases g2 : (c.programs.length : Int) < 1
    · go_enter Tryz.func24, Tryz.ntmps24
      go_wp2_with first | go_skip | ((with_reducible apply wps_boxa S); (case hx => rfl); clear S; intro bx wz S) | ((with_reducible apply wps_load S 0); (case hx | hi | hu => rfl); (case hT => decide +kernel))
      go_ret
      exact ⟨ret_int HE.out.symm, S.below⟩
    by_cases g3 : (32 : Int) < c.programs.length
    · go_enter Tryz.func24, Tryz.ntmps24
      go_wp2_with first | go_skip | ((with_reducible apply wps_boxa S); (case hx => rfl); clear S; intro bx wz S) | ((with_reducible apply wps_load S 0); (case hx | hi | hu => rfl); (case hT => decide +kernel))
      go_ret
      exact ⟨ret_int HE.out.symm, S.below⟩
    by_cases g4 : c.fin < 1
    · go_enter Tryz.func24, Tryz.ntmps24
      go_wp2_with first | go_skip | ((with_reducible apply wps_boxa S); (case hx => rfl); clear S; intro bx wz S) | ((with_reducible apply wps_load S 0); (case hx | hi | hu => rfl); (case hT => decide +kernel))
      go_ret
      exact ⟨ret_int HE.out.symm, S.below⟩
    by_cases g5 : 1073741824 < c.fin
    · go_enter Tryz.func24, Tryz.ntmps24
      go_wp2_with first | go_skip | ((with_reducible apply wps_boxa S); (case hx => rfl); clear S; intro bx wz S) | ((with_reducible apply wps_load S 0); (case hx | hi | hu => rfl); (case hT => decide +kernel))
      go_ret
      exact ⟨ret_int HE.out.symm, S.below⟩
    by_cases g6 : c.fuel < 1
    · go_enter Tryz.func24, Tryz.ntmps24
      go_wp2_with first | go_skip | ((with_reducible apply wps_boxa S); (case hx => rfl); clear S; intro bx wz S) | ((with_reducible apply wps_load S 0); (case hx | hi | hu => rfl); (case hT => decide +kernel))
      go_ret
      exact ⟨ret_int HE.out.symm, S.below⟩
    by_cases g7 : 1024 < c.fuel
    · go_enter Tryz.func24, Tryz.ntmps24
      go_wp2_with first | go_skip | ((with_reducible apply wps_boxa S); (case hx => rfl); clear S; intro bx wz S) | ((with_reducible apply wps_load S 0); (case hx | hi | hu => rfl); (case hT => decide +kernel))
      go_ret
      exact ⟨ret_int HE.out.symm, S.below⟩
    by_cases g8 : c.fan < 0
    · go_enter Tryz.func24, Tryz.ntmps24
      go_wp2_with first | go_skip | ((with_reducible apply wps_boxa S); (case hx => rfl); clear S; intro bx wz S) | ((with_reducible apply wps_load S 0); (case hx | hi | hu => rfl); (case hT => decide +kernel))
      go_ret
      exact ⟨ret_int HE.out.symm, S.below⟩
    by_cases g9 : 8 < c.fan
    · go_enter Tryz.func24, Tryz.ntmps24
      go_wp2_with first | ((with_reducible apply wps_boxa S); (case hx => rfl); clear S; intro bx wz S) | ((with_reducible apply wps_load S 0); (case hx | hi | hu => rfl); (case hT => decide +kernel))
      go_ret
      exact ⟨ret_int HE.out.symm, S.below⟩
    exfalso
    apply hz
    omega
  case pos =>
    have HZ := Lib.hid hz
    unfold sizesOk at hz
    have z1 : ¬ (c.lps.length : Int) < 1 := by omega
    have z2 : ¬ (32 : Int) < c.lps.length := by omega
    have z3 : ¬ (c.programs.length : Int) < 1 := by omega
    have z4 : ¬ (32 : Int) < c.programs.length := by omega
    have z5 : ¬ c.fin < 1 := by omega
    have z6 : ¬ 1073741824 < c.fin := by omega
    have z7 : ¬ c.fuel < 1 := by omega
    have z8 : ¬ 1024 < c.fuel := by omega
    have z9 : ¬ c.fan < 0 := by omega
    have z10 : ¬ 8 < c.fan := by omega
    clear hz
    by_cases gs : (256 : Int) < c.starts.length
    · have HE := Lib.hid (cfg_starts HZ.out (by omega))
      go_enter Tryz.func24, Tryz.ntmps24
      go_wp2_with first | ((with_reducible apply wps_boxa S); (case hx => rfl); clear S; intro bx wz S) | ((with_reducible apply wps_load S 0); (case hx | hi | hu => rfl); (case hT => decide +kernel))
      go_ret
      exact ⟨ret_int HE.out.symm, S.below⟩
    have gs2 : ¬ 256 < c.starts.length := by omega
    go_enter Tryz.func24, Tryz.ntmps24
    go_wp2_with first | ((with_reducible apply wps_boxa S); (case hx => rfl); clear S; intro bx wz S) | ((with_reducible apply wps_load S 0); (case hx | hi | hu => rfl); (case hT => decide +kernel))
    clear z1 z2 z3 z4 z5 z6 z7 z8 z9 z10
    go_loopw [3] (fun i wr => RcRel bx (.slice aP c.programs.length cP) (.slice aL c.lps.length cL) (.slice aS c.starts.length cS) hs c c.programs.length (fun j => ∀ (q : Nat) y, q < j → c.programs[q]? = some y → codeE y = 0) w i wr) (fun i _ => c.programs.length - (intOf i).toNat)
    case atStart => exact ⟨0, Nat.zero_le _, rfl, fun q y h => by omega, S⟩
    case round =>
      clear S
      obtain ⟨j, hj, rfl, Hz, S⟩ := hrel
      by_cases hlt : j < c.programs.length
      · obtain ⟨p, hp⟩ : ∃ p, c.programs[j]? = some p := ⟨_, List.getElem?_eq_getElem hlt⟩
        obtain ⟨v, hv⟩ : ∃ v, hs[j]? = some v := ⟨_, List.getElem?_eq_getElem (by omega)⟩
        obtain ⟨R, o, rfl⟩ : ∃ R o, aP = some ⟨R, o, none⟩ := (S.sl 2 rfl).elim fun F h => h.head (by omega)
        have hlt2 : (j : Int) < c.programs.length := by omega
        obtain ⟨m, hm⟩ : ∃ m, codeE p = m := ⟨_, rfl⟩
        have hc := fun w F h => rcode_calls v p w F h
        rw [hm] at hc
        have Hp := Lib.hid hp
        have Hv := Lib.hid hv
        have Hc := Lib.hid hc
        have Hm := Lib.hid hm
        clear hp hv hc hm
        by_cases h0 : m = 0
        · subst h0
          go_wp2_with first | ((with_reducible apply wps_load_el S 2 (hj := Hv.out) (q := 0) (u := v)); (case hx | hi => rfl); (case hn => omega); (case hu => rfl); (case hT => decide +kernel)) | (go_at_call 44; refine Calls.mono (Hc.out _ _ ((S.slsEl 1 rfl Hv.out Hp.out).get (i := 0) rfl).choose_spec) ?_; rintro e wz ⟨rfl, hE⟩; replace S := S.ext (Keep.of_below hE); clear hE) | ((with_reducible apply wps_load S 0); (case hx | hi | hu => rfl); (case hT => decide +kernel))
          go_roundw
          case rel => exact ⟨j + 1, by omega, by go_num, snoc_all Hz.out Hp.out Hm.out, S⟩
          case measure => first | (simp [intOf]; done) | (simp [intOf]; omega)
        · have h1 : (m != 0) = true := by simpa using h0
          have H0 := Lib.hid h0
          clear h0
          go_wp2_with first | ((with_reducible apply wps_load_el S 2 (hj := Hv.out) (q := 0) (u := v)); (case hx | hi => rfl); (case hn => omega); (case hu => rfl); (case hT => decide +kernel)) | (go_at_call 44; refine Calls.mono (Hc.out _ _ ((S.slsEl 1 rfl Hv.out Hp.out).get (i := 0) rfl).choose_spec) ?_; rintro e wz ⟨rfl, hE⟩; replace S := S.ext (Keep.of_below hE); clear hE) | ((with_reducible apply wps_load S 0); (case hx | hi | hu => rfl); (case hT => decide +kernel))
          go_ret
          refine ⟨ret_int (cfg_prog HZ.out gs2 ?_ H0.out).symm, S.below⟩
          refine firstE_at (j := j) (fun q y hq hy => ?_) (by rw [List.getElem?_map, Hp.out]; simp [Hm.out]) H0.out
          rw [List.getElem?_map] at hy
          cases hp : c.programs[q]? with
          | none => rw [hp] at hy; cases hy
          | some z => rw [hp] at hy; simp at hy; subst hy; exact Hz.out q z hq hp
      · obtain rfl : j = c.programs.length := by omega
        have H3 : Hid (programsE c = 0) := firstE_zero.2 fun x hx => by
          obtain ⟨p, hp, rfl⟩ := List.mem_map.1 hx
          exact all_of Hz.out p hp
        clear Hz
        go_wp2_with first | ((with_reducible apply wps_load S 0); (case hx | hi | hu => rfl); (case hT => decide +kernel))
        go_loopw [6] (fun i wr => RcRel bx (.slice aP c.programs.length cP) (.slice aL c.lps.length cL) (.slice aS c.starts.length cS) hs c c.lps.length (fun j => ∀ (q : Nat) y, q < j → c.lps[q]? = some y → 0 ≤ y.program ∧ y.program < c.programs.length) w i wr) (fun i _ => c.lps.length - (intOf i).toNat)
        case atStart => exact ⟨0, Nat.zero_le _, rfl, fun q y h => by omega, S⟩
        case round =>
          clear S
          obtain ⟨j, hj, rfl, Hz, S⟩ := hrel
          by_cases hlt : j < c.lps.length
          · obtain ⟨p, hp⟩ : ∃ p, c.lps[j]? = some p := ⟨_, List.getElem?_eq_getElem hlt⟩
            obtain ⟨R, o, rfl⟩ : ∃ R o, aL = some ⟨R, o, none⟩ := (S.sl 3 rfl).elim fun F h => h.head (by omega)
            have hlt2 : (j : Int) < c.lps.length := by omega
            have Hp := Lib.hid hp
            clear hp
            by_cases g1 : p.program < 0
            · go_wp2_with first | ((with_reducible refine wpList_skip ?hw ?_); (case hw => with_unfolding_all rfl); simp only [Act.put, List.setIfInBounds_toArray, List.set_cons_succ, List.set_cons_zero]) | ((with_reducible apply wps_load_el S 3 (hj := Hp.out) (q := 0) (u := .int .i64 p.program)); (case hx | hi => rfl); (case hn => omega); (case hu => rfl); (case hT => decide +kernel)) | ((with_reducible refine tot_done ?ht ?_); (case ht => kernel_rfl)) | ((with_reducible apply wps_text S); (case hm => kernel_rfl); (case hB => decide +kernel); clear S; intro wz S) | ((with_reducible apply wps_load S 0); (case hx | hi | hu => rfl); (case hT => decide +kernel))
              go_ret
              exact ⟨ret_int (cfg_ends HZ.out gs2 H3.out (by rintro ⟨h, _⟩; have := (h p (List.mem_of_getElem? Hp.out)).1; omega)).symm, S.below⟩
            by_cases g2 : (c.programs.length : Int) ≤ p.program
            · go_wp2_with first | ((with_reducible apply wps_load_el S 3 (hj := Hp.out) (q := 0) (u := .int .i64 p.program)); (case hx | hi => rfl); (case hn => omega); (case hu => rfl); (case hT => decide +kernel)) | ((with_reducible refine tot_done ?ht ?_); (case ht => kernel_rfl)) | ((with_reducible apply wps_text S); (case hm => kernel_rfl); (case hB => decide +kernel); clear S; intro wz S) | ((with_reducible apply wps_load S 0); (case hx | hi | hu => rfl); (case hT => decide +kernel))
              go_ret
              exact ⟨ret_int (cfg_ends HZ.out gs2 H3.out (by rintro ⟨h, _⟩; have := (h p (List.mem_of_getElem? Hp.out)).2; omega)).symm, S.below⟩
            go_wp2_with first | ((with_reducible apply wps_load_el S 3 (hj := Hp.out) (q := 0) (u := .int .i64 p.program)); (case hx | hi => rfl); (case hn => omega); (case hu => rfl); (case hT => decide +kernel)) | ((with_reducible refine tot_done ?ht ?_); (case ht => kernel_rfl)) | ((with_reducible apply wps_text S); (case hm => kernel_rfl); (case hB => decide +kernel); clear S; intro wz S) | ((with_reducible apply wps_load S 0); (case hx | hi | hu => rfl); (case hT => decide +kernel))
            go_roundw
            case rel => exact ⟨j + 1, by omega, by go_num, snoc_all Hz.out Hp.out ⟨by omega, by omega⟩, S⟩
            case measure => first | (simp [intOf]; done) | (simp [intOf]; omega)
          · obtain rfl : j = c.lps.length := by omega
            have H4 := Lib.hid (all_of Hz.out)
            clear Hz
            go_wp2_with first | ((with_reducible apply wps_load S 0); (case hx | hi | hu => rfl); (case hT => decide +kernel))
            go_loopw [7] (fun i wr => RcRel bx (.slice aP c.programs.length cP) (.slice aL c.lps.length cL) (.slice aS c.starts.length cS) hs c c.starts.length (fun j => ∀ (q : Nat) (y : Start), q < j → c.starts[q]? = some y → 0 ≤ y.dst ∧ y.dst < c.lps.length) w i wr) (fun i _ => c.starts.length - (intOf i).toNat)
            case atStart => exact ⟨0, Nat.zero_le _, rfl, fun q y h => by omega, S⟩
            case round =>
              clear S
              obtain ⟨j, hj, rfl, Hz, S⟩ := hrel
              by_cases hlt : j < c.starts.length
              · obtain ⟨p, hp⟩ : ∃ p, c.starts[j]? = some p := ⟨_, List.getElem?_eq_getElem hlt⟩
                obtain ⟨R, o, rfl⟩ : ∃ R o, aS = some ⟨R, o, none⟩ := (S.sl 4 rfl).elim fun F h => h.head (by omega)
                have hlt2 : (j : Int) < c.starts.length := by omega
                have Hp := Lib.hid hp
                clear hp
                by_cases g1 : p.dst < 0
                · go_wp2_with first | ((with_reducible refine wpList_skip ?hw ?_); (case hw => with_unfolding_all rfl); simp only [Act.put, List.setIfInBounds_toArray, List.set_cons_succ, List.set_cons_zero]) | ((with_reducible apply wps_load_el S 4 (hj := Hp.out) (q := 0) (u := .int .i64 p.dst)); (case hx | hi => rfl); (case hn => omega); (case hu => rfl); (case hT => decide +kernel)) | ((with_reducible refine tot_done ?ht ?_); (case ht => kernel_rfl)) | ((with_reducible apply wps_text S); (case hm => kernel_rfl); (case hB => decide +kernel); clear S; intro wz S) | ((with_reducible apply wps_load S 0); (case hx | hi | hu => rfl); (case hT => decide +kernel))
                  go_ret
                  exact ⟨ret_int (cfg_ends HZ.out gs2 H3.out (by rintro ⟨_, h⟩; have := (h p (List.mem_of_getElem? Hp.out)).1; omega)).symm, S.below⟩
                by_cases g2 : (c.lps.length : Int) ≤ p.dst
                · go_wp2_with first | ((with_reducible apply wps_load_el S 4 (hj := Hp.out) (q := 0) (u := .int .i64 p.dst)); (case hx | hi => rfl); (case hn => omega); (case hu => rfl); (case hT => decide +kernel)) | ((with_reducible refine tot_done ?ht ?_); (case ht => kernel_rfl)) | ((with_reducible apply wps_text S); (case hm => kernel_rfl); (case hB => decide +kernel); clear S; intro wz S) | ((with_reducible apply wps_load S 0); (case hx | hi | hu => rfl); (case hT => decide +kernel))
                  go_ret
                  exact ⟨ret_int (cfg_ends HZ.out gs2 H3.out (by rintro ⟨_, h⟩; have := (h p (List.mem_of_getElem? Hp.out)).2; omega)).symm, S.below⟩
                go_wp2_with first | ((with_reducible apply wps_load_el S 4 (hj := Hp.out) (q := 0) (u := .int .i64 p.dst)); (case hx | hi => rfl); (case hn => omega); (case hu => rfl); (case hT => decide +kernel)) | ((with_reducible refine tot_done ?ht ?_); (case ht => kernel_rfl)) | ((with_reducible apply wps_text S); (case hm => kernel_rfl); (case hB => decide +kernel); clear S; intro wz S) | ((with_reducible apply wps_load S 0); (case hx | hi | hu => rfl); (case hT => decide +kernel))
                go_roundw
                case rel => exact ⟨j + 1, by omega, by go_num, snoc_all Hz.out Hp.out ⟨by omega, by omega⟩, S⟩
                case measure => first | (simp [intOf]; done) | (simp [intOf]; omega)
              · obtain rfl : j = c.starts.length := by omega
                have H5 := Lib.hid (all_of Hz.out)
                clear Hz
                go_wp2_with first | ((with_reducible apply wps_load S 0); (case hx | hi | hu => rfl); (case hT => decide +kernel))
                go_loopw [8] (fun i wr => RcRel bx (.slice aP c.programs.length cP) (.slice aL c.lps.length cL) (.slice aS c.starts.length cS) hs c c.starts.length (fun j => ∀ (q : Nat) (y : Start), q < j → c.starts[q]? = some y → 0 ≤ y.at_ ∧ y.at_ ≤ c.fin) w i wr) (fun i _ => c.starts.length - (intOf i).toNat)
                case atStart => exact ⟨0, Nat.zero_le _, rfl, fun q y h => by omega, S⟩
                case round =>
                  clear S
                  obtain ⟨j, hj, rfl, Hz, S⟩ := hrel
                  by_cases hlt : j < c.starts.length
                  · obtain ⟨p, hp⟩ : ∃ p, c.starts[j]? = some p := ⟨_, List.getElem?_eq_getElem hlt⟩
                    obtain ⟨R, o, rfl⟩ : ∃ R o, aS = some ⟨R, o, none⟩ := (S.sl 4 rfl).elim fun F h => h.head (by omega)
                    have hlt2 : (j : Int) < c.starts.length := by omega
                    have Hp := Lib.hid hp
                    clear hp
                    by_cases g1 : p.at_ < 0
                    · go_wp2_with first | ((with_reducible refine wpList_skip ?hw ?_); (case hw => with_unfolding_all rfl); simp only [Act.put, List.setIfInBounds_toArray, List.set_cons_succ, List.set_cons_zero]) | ((with_reducible apply wps_load_el S 4 (hj := Hp.out) (q := 1) (u := .int .i64 p.at_)); (case hx | hi => rfl); (case hn => omega); (case hu => rfl); (case hT => decide +kernel)) | ((with_reducible refine tot_done ?ht ?_); (case ht => kernel_rfl)) | ((with_reducible apply wps_text S); (case hm => kernel_rfl); (case hB => decide +kernel); clear S; intro wz S) | ((with_reducible apply wps_load S 0); (case hx | hi | hu => rfl); (case hT => decide +kernel))
                      go_ret
                      exact ⟨ret_int (cfg_times HZ.out gs2 H3.out ⟨H4.out, H5.out⟩ (by intro h; have := (h p (List.mem_of_getElem? Hp.out)).1; omega)).symm, S.below⟩
                    by_cases g2 : c.fin < p.at_
                    · go_wp2_with first | ((with_reducible apply wps_load_el S 4 (hj := Hp.out) (q := 1) (u := .int .i64 p.at_)); (case hx | hi => rfl); (case hn => omega); (case hu => rfl); (case hT => decide +kernel)) | ((with_reducible refine tot_done ?ht ?_); (case ht => kernel_rfl)) | ((with_reducible apply wps_text S); (case hm => kernel_rfl); (case hB => decide +kernel); clear S; intro wz S) | ((with_reducible apply wps_load S 0); (case hx | hi | hu => rfl); (case hT => decide +kernel))
                      go_ret
                      exact ⟨ret_int (cfg_times HZ.out gs2 H3.out ⟨H4.out, H5.out⟩ (by intro h; have := (h p (List.mem_of_getElem? Hp.out)).2; omega)).symm, S.below⟩
                    go_wp2_with first | ((with_reducible apply wps_load_el S 4 (hj := Hp.out) (q := 1) (u := .int .i64 p.at_)); (case hx | hi => rfl); (case hn => omega); (case hu => rfl); (case hT => decide +kernel)) | ((with_reducible refine tot_done ?ht ?_); (case ht => kernel_rfl)) | ((with_reducible apply wps_text S); (case hm => kernel_rfl); (case hB => decide +kernel); clear S; intro wz S) | ((with_reducible apply wps_load S 0); (case hx | hi | hu => rfl); (case hT => decide +kernel))
                    go_roundw
                    case rel => exact ⟨j + 1, by omega, by go_num, snoc_all Hz.out Hp.out ⟨by omega, by omega⟩, S⟩
                    case measure => first | (simp [intOf]; done) | (simp [intOf]; omega)
                  · obtain rfl : j = c.starts.length := by omega
                    go_wp2_with first | ((with_reducible apply wps_load S 0); (case hx | hi | hu => rfl); (case hT => decide +kernel))
                    go_ret
                    exact ⟨ret_int (cfg_fine HZ.out gs2 H3.out ⟨H4.out, H5.out⟩ (all_of Hz.out)).symm, S.below⟩
end Go.Proofs.YtemgonomenjjaaaGreatDoor
/- The walks of the law's Made and timely. -/
namespace Go.Proofs.YtemgonomenjjaaaGreatDoor
open Go Go.RowKit Reg Mem

section
variable {G : Nat → Prop} {w0 w : World} {L : List Asn}
/-- A configuration out of parts that are owned. -/
theorem Mem.St.rcfgNew {vH vR vT : Value} {gs : List Hd} {c : Cfg} (S : St G w0 w (Own 103 hcell 1 vH gs :: Ows 152 Instr.cells 5 (gs.map Hd.val) c.programs :: Own 106 Place.cells 5 vR c.lps :: Own 109 Start.cells 4 vT c.starts :: L)) :
    St G w0 w (CfgA false [vH, vR, vT, .int .i64 c.fin, .int .i64 c.fuel, .int .i64 c.fan] (gs.map Hd.val) c :: L) := by
  have S1 := ((S.both rfl rfl).both rfl rfl).both rfl rfl
  have := S1.weak (i := 0) (A' := CfgA false [vH, vR, vT, .int .i64 c.fin, .int .i64 c.fuel, .int .i64 c.fan] (gs.map Hd.val) c) rfl (fun _ => rfl) fun F h => ?_
  · simpa using this
  · obtain ⟨F3, F4, ⟨F5, F6, ⟨F7, F8, h1, h2, e4⟩, h3, e3⟩, h4, e2⟩ := h
    have i1 : ∀ b, F7 b → F b := fun b h => (e2 b).2 (.inl ((e3 b).2 (.inl ((e4 b).2 (.inl h)))))
    have i2 : ∀ b, F8 b → F b := fun b h => (e2 b).2 (.inl ((e3 b).2 (.inl ((e4 b).2 (.inr h)))))
    have i3 : ∀ b, F6 b → F b := fun b h => (e2 b).2 (.inl ((e3 b).2 (.inr h)))
    have i4 : ∀ b, F4 b → F b := fun b h => (e2 b).2 (.inr h)
    have k1 := own_sl (sh := true) hdcells h1
    have k3 := own_sl (sh := true) plcells h3
    have k4 := own_sl (sh := true) stcells h4
    have k1' : (Sl true vcell 1 vH (gs.map Hd.val)).at_ w F7 := ⟨slat_map Hd.val (fun _ => rfl) k1.1, k1.2⟩
    refine ⟨F, fun _ h => h, ⟨⟨⟨vH, vR, vT, rfl, k1'.1.mono i1, k3.1.mono i3, k4.1.mono i4⟩, (ows_sls incells h2).1.mono i2⟩, fun b hb => ?_⟩⟩
    rcases (e2 b).1 hb with h | h
    · rcases (e3 b).1 h with h | h
      · rcases (e4 b).1 h with h | h
        · exact k1.2 b h
        · exact h2.2 b h
      · exact k3.2 b h
    · exact k4.2 b h
end
def madeB (c : Cfg) : Bool := fewB c && decide (cfgE c = 0)
/-- What Made leaves: a model, if there may be one, and the reference's configuration. -/
def MadePost (c : Cfg) (w : World) (r : Ending) (w' : World) : Prop :=
  ∃ pv vs2 hs2, r = .returned (.tuple #[pv, .agg (List.toArray vs2)]) ∧
    ((madeB c = false ∧ pv = .pointer none ∧ St (fun _ => False) w w' [CfgA false vs2 hs2 c]) ∨
     (madeB c = true ∧ ∃ R vs hs, pv = .pointer (some ⟨R, 0, none⟩) ∧ St (fun _ => False) w w' [ModA false 84 R vs hs c, CfgA false vs2 hs2 c]))
set_option maxRecDepth 100000 in
set_option maxHeartbeats 16000000 in
theorem made_calls (vs hs : List Value) (c : Cfg) (w : World) (F F2 : Nat → Prop) (h : (CfgA true vs hs c).at_ w F) (hw : Wide c) (hwb : WideB c) (ht : Tab.at_ w F2) : Calls Tryz.prog 5 #[.agg vs.toArray] w (MadePost c w) := by
  have S : St (fun _ => False) w w [CfgA true vs hs c, Tab] := ((St.init _ w).share rfl rfl ht).share rfl rfl h
  clear h ht
  obtain ⟨aP, cP, aL, cL, aS, cS, rfl, hlen, _⟩ := S.cfg 0 rfl
  have HF : Hid (∀ w F, (CfgA true [.slice aP c.programs.length cP, .slice aL c.lps.length cL, .slice aS c.starts.length cS, .int .i64 c.fin, .int .i64 c.fuel, .int .i64 c.fan] hs c).at_ w F →
      Calls Tryz.prog 23 #[.agg #[.slice aP c.programs.length cP, .slice aL c.lps.length cL, .slice aS c.starts.length cS, .int .i64 c.fin, .int .i64 c.fuel, .int .i64 c.fan]] w fun r w' => r = .returned (.bool (fewB c)) ∧ Below w.heap.size w w') :=
    fun w F h => few_calls _ hs c w F h hw
  have hmw : MidW c := ⟨hwb.p, hwb.l, hwb.s⟩
  have hmw2 := hwb.q
  clear hlen
  go_enter Tryz.func5, Tryz.ntmps5
  go_wp2_with first | ((with_reducible apply wps_boxa (E := 26) S); (case hx => rfl); clear S; intro bx wz S) | ((with_reducible apply wps_alloca (E := 34) S); (case hz => exact Tryz.zeroValue34); clear S; intro b3 wz S) | ((with_reducible apply wps_loada (T := 26) (k := 6) S 1); (case hx | hi => rfl); (case hk => exact Nat.le_of_ble_eq_true rfl); (case hT => decide +kernel))
  refine Calls.mono (cplainW_calls [.slice aP c.programs.length cP, .slice aL c.lps.length cL, .slice aS c.starts.length cS, .int .i64 c.fin, .int .i64 c.fuel, .int .i64 c.fan] hs c _ _ (S.get (i := 2) rfl).choose_spec hmw hmw2) ?_
  rintro e wz ⟨gs, vH, vR, vT, rfl, hgs, T⟩
  replace S := S.join T rfl
  simp only [List.cons_append, List.nil_append] at S
  clear T
  obtain ⟨aH, cH, rfl⟩ : ∃ a c, _ = Value.slice a gs.length c := (S.get (i := 0) rfl).elim fun F h => h.1.form
  obtain ⟨aR, cR, rfl⟩ : ∃ a d, _ = Value.slice a c.lps.length d := (S.get (i := 2) rfl).elim fun F h => h.1.form
  obtain ⟨aT, cT, rfl⟩ : ∃ a d, _ = Value.slice a c.starts.length d := (S.get (i := 3) rfl).elim fun F h => h.1.form
  replace S := S.rcfgNew
  generalize gs.map Hd.val = hs2 at *
  generalize gs.length = gn at *
  clear hgs
  have fin0 : ∀ (w' : World), madeB c = false → St (fun _ => False) w w' [CfgA false [.slice aH gn cH, .slice aR c.lps.length cR, .slice aT c.starts.length cT, .int .i64 c.fin, .int .i64 c.fuel, .int .i64 c.fan] hs2 c] →
      MadePost c w (.returned (.tuple #[.pointer none, .agg #[.slice aH gn cH, .slice aR c.lps.length cR, .slice aT c.starts.length cT, .int .i64 c.fin, .int .i64 c.fuel, .int .i64 c.fan]])) w' := fun w' hm S => ⟨_, [.slice aH gn cH, .slice aR c.lps.length cR, .slice aT c.starts.length cT, .int .i64 c.fin, .int .i64 c.fuel, .int .i64 c.fan], hs2, rfl, .inl ⟨hm, rfl, S⟩⟩
  have Fin0 := Lib.hid fin0
  clear fin0
  replace S := S.pick [0, 2, 3, 4, 1] rfl
  repeat (first | simp only at S | simp only [pick] at S | simp only [nth] at S | simp only [List.set_cons_succ] at S | simp only [List.set_cons_zero] at S | simp only [List.setIfInBounds_toArray] at S | simp only [setAll] at S | simp only [List.cons_append] at S | simp only [List.nil_append] at S | simp only [List.append_nil] at S)
  cases hf : fewB c with
  | false =>
    rw [hf] at HF
    have Hm : Hid (madeB c = false) := by show _ = _; unfold madeB; rw [hf]; rfl
    clear hf hw
    go_wp2_with first | go_skip | ((with_reducible apply wps_alloca (E := 34) S); (case hz => exact Tryz.zeroValue34); clear S; intro b4 wz S) | ((with_reducible apply wps_storea (T := 34) S 0 (vs := [.slice aH gn cH, .slice aR c.lps.length cR, .slice aT c.starts.length cT, .int .i64 c.fin, .int .i64 c.fuel, .int .i64 c.fan]) (m := 6)); (case hx | hy | hi | hm | h1 => rfl); (case hn => exact Nat.le_of_ble_eq_true rfl); (case hT => decide +kernel); clear S; intro wz S; simp only [List.set_cons_zero, List.set_cons_succ, setAll, List.setIfInBounds_toArray] at S) | ((with_reducible apply wps_loada (T := 26) (k := 6) S 2); (case hx | hi => rfl); (case hk => exact Nat.le_of_ble_eq_true rfl); (case hT => decide +kernel)) | (go_at_call 23; refine Calls.mono (HF.out _ _ (S.get (i := 3) rfl).choose_spec) ?_; rintro e wz ⟨rfl, hE⟩; replace S := S.ext (Keep.of_below hE); clear hE) | ((with_reducible apply wps_loada (T := 34) (k := 6) S 0); (case hx | hi => rfl); (case hk => exact Nat.le_of_ble_eq_true rfl); (case hT => decide +kernel)) | ((with_reducible apply wps_storea (T := 34) S 5 (vs := [.slice aH gn cH, .slice aR c.lps.length cR, .slice aT c.starts.length cT, .int .i64 c.fin, .int .i64 c.fuel, .int .i64 c.fan]) (m := 6)); (case hx | hy | hi | hm | h1 => rfl); (case hn => exact Nat.le_of_ble_eq_true rfl); (case hT => decide +kernel); clear S; intro wz S; simp only [List.set_cons_zero, List.set_cons_succ, setAll, List.setIfInBounds_toArray] at S) | ((with_reducible refine tot_done ?ht ?_); (case ht => kernel_rfl)) | ((with_reducible apply wps_text S); (case hm => kernel_rfl); (case hB => decide +kernel); clear S; intro wz S)
    (try simp only [Exit.inBlock, Exit.then]); refine bodyPost_ret (results2 rfl (res_tmp rfl) (S.resA 5 rfl rfl (by kernel_rfl))) rfl ?_
    exact Fin0.out _ Hm.out (S.pick [1] rfl)
  | true =>
    rw [hf] at HF
    have HM := Lib.hid (few_midK hf)
    have HM2 := Lib.hid (few_midK2 hf)
    have Hf := Lib.hid hf
    clear hf hw
    have HR := Lib.hid fun w F h => refcheck_calls [.slice aH gn cH, .slice aR c.lps.length cR, .slice aT c.starts.length cT, .int .i64 c.fin, .int .i64 c.fuel, .int .i64 c.fan] hs2 c w F h HM.out
    have HNw := Lib.hid fun w F F2 h ht => new_calls [.slice aP c.programs.length cP, .slice aL c.lps.length cL, .slice aS c.starts.length cS, .int .i64 c.fin, .int .i64 c.fuel, .int .i64 c.fan] hs c w F F2 h ht HM.out HM2.out
    by_cases h0 : cfgE c = 0
    case neg =>
      have Hm : Hid (madeB c = false) := by show _ = _; unfold madeB; rw [decide_eq_false h0, Bool.and_false]
      obtain ⟨e, he⟩ : ∃ e, cfgE c = e := ⟨_, rfl⟩
      rw [he] at HR h0
      have h1 : (e != 0) = true := by simpa using h0
      clear HNw h0
      have He := Lib.hid he
      clear he
      go_wp2_with first | ((with_reducible apply wps_alloca (E := 34) S); (case hz => exact Tryz.zeroValue34); clear S; intro b4 wz S) | ((with_reducible apply wps_storea (T := 34) S 0 (vs := [.slice aH gn cH, .slice aR c.lps.length cR, .slice aT c.starts.length cT, .int .i64 c.fin, .int .i64 c.fuel, .int .i64 c.fan]) (m := 6)); (case hx | hy | hi | hm | h1 => rfl); (case hn => exact Nat.le_of_ble_eq_true rfl); (case hT => decide +kernel); clear S; intro wz S; simp only [List.set_cons_zero, List.set_cons_succ, setAll, List.setIfInBounds_toArray] at S) | ((with_reducible apply wps_loada (T := 26) (k := 6) S 2); (case hx | hi => rfl); (case hk => exact Nat.le_of_ble_eq_true rfl); (case hT => decide +kernel)) | ((with_reducible apply wps_loada (T := 34) (k := 6) S 0); (case hx | hi => rfl); (case hk => exact Nat.le_of_ble_eq_true rfl); (case hT => decide +kernel)) | (go_at_call 23; refine Calls.mono (HF.out _ _ (S.get (i := 3) rfl).choose_spec) ?_; rintro e wz ⟨rfl, hE⟩; replace S := S.ext (Keep.of_below hE); clear hE) | (go_at_call 24; refine Calls.mono (HR.out _ _ (S.get (i := 1) rfl).choose_spec) ?_; rintro e wz ⟨rfl, hE⟩; replace S := S.ext (Keep.of_below hE); clear hE) | ((with_reducible apply wps_storea (T := 34) S 5 (vs := [.slice aH gn cH, .slice aR c.lps.length cR, .slice aT c.starts.length cT, .int .i64 c.fin, .int .i64 c.fuel, .int .i64 c.fan]) (m := 6)); (case hx | hy | hi | hm | h1 => rfl); (case hn => exact Nat.le_of_ble_eq_true rfl); (case hT => decide +kernel); clear S; intro wz S; simp only [List.set_cons_zero, List.set_cons_succ, setAll, List.setIfInBounds_toArray] at S) | ((with_reducible refine tot_done ?ht ?_); (case ht => kernel_rfl)) | ((with_reducible apply wps_text S); (case hm => kernel_rfl); (case hB => decide +kernel); clear S; intro wz S)
      (try simp only [Exit.inBlock, Exit.then]); refine bodyPost_ret (results2 rfl (res_tmp rfl) (S.resA 5 rfl rfl (by kernel_rfl))) rfl ?_
      exact Fin0.out _ Hm.out (S.pick [1] rfl)
    case pos =>
      have Hm : Hid (madeB c = true) := by show _ = _; unfold madeB; rw [Hf.out, decide_eq_true h0]; rfl
      have H0 := Lib.hid h0
      rw [h0] at HR
      clear h0
      go_wp2_with first | ((with_reducible apply wps_alloca (E := 34) S); (case hz => exact Tryz.zeroValue34); clear S; intro b4 wz S) | ((with_reducible apply wps_storea (T := 34) S 0 (vs := [.slice aH gn cH, .slice aR c.lps.length cR, .slice aT c.starts.length cT, .int .i64 c.fin, .int .i64 c.fuel, .int .i64 c.fan]) (m := 6)); (case hx | hy | hi | hm | h1 => rfl); (case hn => exact Nat.le_of_ble_eq_true rfl); (case hT => decide +kernel); clear S; intro wz S; simp only [List.set_cons_zero, List.set_cons_succ, setAll, List.setIfInBounds_toArray] at S) | ((with_reducible apply wps_loada (T := 26) (k := 6) S 2); (case hx | hi => rfl); (case hk => exact Nat.le_of_ble_eq_true rfl); (case hT => decide +kernel)) | ((with_reducible apply wps_loada (T := 34) (k := 6) S 0); (case hx | hi => rfl); (case hk => exact Nat.le_of_ble_eq_true rfl); (case hT => decide +kernel)) | (go_at_call 23; refine Calls.mono (HF.out _ _ (S.get (i := 3) rfl).choose_spec) ?_; rintro e wz ⟨rfl, hE⟩; replace S := S.ext (Keep.of_below hE); clear hE) | (go_at_call 24; refine Calls.mono (HR.out _ _ (S.get (i := 1) rfl).choose_spec) ?_; rintro e wz ⟨rfl, hE⟩; replace S := S.ext (Keep.of_below hE); clear hE)
      refine Calls.mono (HNw.out _ _ _ (S.get (i := 3) rfl).choose_spec (S.get (i := 4) rfl).choose_spec) ?_
      rintro e wz (⟨hne, rfl, hE⟩ | ⟨_, R, vs3, hs3, rfl, T⟩)
      · exact absurd H0.out hne
      replace S := (S.join T rfl).pick [1, 0, 2, 3, 4, 5, 6] rfl
      repeat (first | simp only at S | simp only [pick] at S | simp only [nth] at S | simp only [List.set_cons_succ] at S | simp only [List.set_cons_zero] at S | simp only [List.setIfInBounds_toArray] at S | simp only [setAll] at S | simp only [List.cons_append] at S | simp only [List.nil_append] at S | simp only [List.append_nil] at S)
      clear T
      go_wp2_with first | ((with_reducible apply wps_storea (T := 34) S 6 (vs := [.slice aH gn cH, .slice aR c.lps.length cR, .slice aT c.starts.length cT, .int .i64 c.fin, .int .i64 c.fuel, .int .i64 c.fan]) (m := 6)); (case hx | hy | hi | hm | h1 => rfl); (case hn => exact Nat.le_of_ble_eq_true rfl); (case hT => decide +kernel); clear S; intro wz S; simp only [List.set_cons_zero, List.set_cons_succ, setAll, List.setIfInBounds_toArray] at S) | ((with_reducible refine tot_done ?ht ?_); (case ht => kernel_rfl)) | ((with_reducible apply wps_text S); (case hm => kernel_rfl); (case hB => decide +kernel); clear S; intro wz S) | ((with_reducible apply wps_loada (T := 34) (k := 6) S 0); (case hx | hi => rfl); (case hk => exact Nat.le_of_ble_eq_true rfl); (case hT => decide +kernel))
      (try simp only [Exit.inBlock, Exit.then]); refine bodyPost_ret (results2 rfl (res_tmp rfl) (S.resA 6 rfl rfl (by kernel_rfl))) rfl ?_
      exact ⟨_, [.slice aH gn cH, .slice aR c.lps.length cR, .slice aT c.starts.length cT, .int .i64 c.fin, .int .i64 c.fuel, .int .i64 c.fan], hs2, rfl, .inr ⟨Hm.out, R, vs3, hs3, rfl, S.pick [1, 2] rfl⟩⟩
end Go.Proofs.YtemgonomenjjaaaGreatDoor

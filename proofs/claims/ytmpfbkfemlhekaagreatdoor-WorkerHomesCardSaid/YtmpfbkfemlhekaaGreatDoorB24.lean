import Derived.Test.YtmpfbkfemlhekaaGreatDoorB23
import Derived.Test.YtmpfbkfemlhekaaGreatDoorB10
import Derived.Test.YtmpfbkfemlhekaaGreatDoorB15
import Derived.Test.YtmpfbkfemlhekaaGreatDoorB22
import Derived.Test.YtmpfbkfemlhekaaGreatDoorB14
import Derived.Test.YtmpfbkfemlhekaaGreatDoorB08
import Derived.Test.YtmpfbkfemlhekaaGreatDoorB06
/- The walks of the reference's Check of programs and of configurations. -/
namespace Go.Proofs.YtmpfbkfemlhekaaGreatDoor
open Go Go.RowKit Reg Mem

def RCodeRel (v : Value) (p : List Instr) (w : World) (i : Value) (wr : World) : Prop :=
  ∃ j : Nat, j ≤ p.length ∧ i = .int .i64 j ∧ Hid (∀ (q : Nat) y, q < j → p[q]? = some y → mayE y p.length = 0) ∧ St (fun _ => False) w wr [Sl true Instr.cells 5 v p]
set_option maxRecDepth 100000 in
set_option maxHeartbeats 4000000 in
theorem rcode_calls (v : Value) (p : List Instr) (w : World) (F : Nat → Prop) (h : (Sl true Instr.cells 5 v p).at_ w F) : Calls Tryz.prog 65 #[v] w fun r w' => r = .returned (.tuple #[.int .i64 (codeAt p), .int .i64 (codeE p)]) ∧ Below w.heap.size w w' := by
  have S : St (fun _ => False) w w [Sl true Instr.cells 5 v p] := (St.init _ w).share rfl rfl h
  obtain ⟨ad, cp, rfl, _⟩ := (S.sl 0 rfl).elim fun _ h => h.form
  clear h
  by_cases g1 : (64 : Int) < p.length
  · have HE : Hid (codeAt p = 0 ∧ codeE p = 11) := ⟨by unfold codeAt; rw [if_pos (by omega)], by unfold codeE; rw [if_pos (by omega)]⟩
    go_enter Tryz.func65, Tryz.ntmps65
    go_wp2_with first | ((with_reducible refine tot_done ?ht ?_); (case ht => kernel_rfl)) | ((with_reducible apply wps_loada (T := 216) (k := 5) S 0); (case hx | hi => rfl); (case hk => exact Nat.le_of_ble_eq_true rfl); (case hT => decide +kernel))
    go_ret2
    exact ⟨by simp [HE.out.1, HE.out.2], S.below⟩
  · have HE : Hid (codeAt p = whereE (p.map (mayE · p.length)) 0 ∧ codeE p = firstE (p.map (mayE · p.length))) := ⟨by unfold codeAt; rw [if_neg (by omega)], by unfold codeE; rw [if_neg (by omega)]⟩
    go_enter Tryz.func65, Tryz.ntmps65
    go_wp2_with first | ((with_reducible refine tot_done ?ht ?_); (case ht => kernel_rfl)) | ((with_reducible apply wps_loada (T := 216) (k := 5) S 0); (case hx | hi => rfl); (case hk => exact Nat.le_of_ble_eq_true rfl); (case hT => decide +kernel))
    go_loopw [4] (fun i wr => RCodeRel (.slice ad p.length cp) p w i wr) (fun i _ => p.length - (intOf i).toNat)
    case atStart => exact ⟨0, Nat.zero_le _, rfl, fun q y h => by omega, S⟩
    case round =>
      clear S
      obtain ⟨j, hj, rfl, Hz, S⟩ := hrel
      by_cases hlt : j < p.length
      · obtain ⟨x, hx⟩ : ∃ x, p[j]? = some x := ⟨_, List.getElem?_eq_getElem hlt⟩
        obtain ⟨R, o, rfl⟩ : ∃ R o, ad = some ⟨R, o, none⟩ := (S.sl 0 rfl).elim fun F h => h.head (by omega)
        have hlt2 : (j : Int) < p.length := by omega
        have hc := rmay_calls x p.length
        obtain ⟨m, hm⟩ : ∃ m, mayE x p.length = m := ⟨_, rfl⟩
        rw [hm] at hc
        have Hx := Lib.hid hx
        have Hm := Lib.hid hm
        have Hc := Lib.hid hc
        clear hx hm hc
        by_cases h0 : m = 0
        · subst h0
          go_wp2_with first | ((with_reducible apply wps_loada_el S 0 (hj := Hx.out) (q := 0) (vs := [.int .i64 x.op, .int .i64 x.a, .int .i64 x.b, .int .i64 x.c, .int .i64 x.d]) (m := 5)); (case hx | hi => rfl); (case hn => omega); (case hm | hv => rfl); (case hT => decide +kernel)) | (go_at_call 114; refine Calls.mono (Hc.out _) ?_; rintro e wz ⟨rfl, hE⟩; replace S := S.ext (Keep.of_below hE); clear hE) | ((with_reducible refine tot_done ?ht ?_); (case ht => kernel_rfl)) | ((with_reducible apply wps_loada (T := 216) (k := 5) S 0); (case hx | hi => rfl); (case hk => exact Nat.le_of_ble_eq_true rfl); (case hT => decide +kernel))
          go_roundw
          case rel =>
            refine ⟨j + 1, by omega, by go_num, fun q y hq hy => ?_, S⟩
            by_cases e : q = j
            · subst e; rw [Hx.out] at hy; cases hy; exact Hm.out
            · exact Hz.out q y (by omega) hy
          case measure => first | (simp [intOf]; done) | (simp [intOf]; omega)
        · have h1 : (m != 0) = true := by simpa using h0
          have H0 := Lib.hid h0
          clear h0
          go_wp2_with first | ((with_reducible apply wps_loada_el S 0 (hj := Hx.out) (q := 0) (vs := [.int .i64 x.op, .int .i64 x.a, .int .i64 x.b, .int .i64 x.c, .int .i64 x.d]) (m := 5)); (case hx | hi => rfl); (case hn => omega); (case hm | hv => rfl); (case hT => decide +kernel)) | (go_at_call 114; refine Calls.mono (Hc.out _) ?_; rintro e wz ⟨rfl, hE⟩; replace S := S.ext (Keep.of_below hE); clear hE) | ((with_reducible refine tot_done ?ht ?_); (case ht => kernel_rfl)) | ((with_reducible apply wps_loada (T := 216) (k := 5) S 0); (case hx | hi => rfl); (case hk => exact Nat.le_of_ble_eq_true rfl); (case hT => decide +kernel))
          go_ret2
          have hz : ∀ (q : Nat) y, q < j → (p.map (mayE · p.length))[q]? = some y → y = 0 := fun q y hq hy => by
            rw [List.getElem?_map] at hy
            cases hp : p[q]? with
            | none => rw [hp] at hy; cases hy
            | some z => rw [hp] at hy; simp at hy; subst hy; exact Hz.out q z hq hp
          have hx : (p.map (mayE · p.length))[j]? = some m := by rw [List.getElem?_map, Hx.out]; simp [Hm.out]
          refine ⟨?_, S.below⟩
          rw [HE.out.1, HE.out.2, whereE_at hz hx H0.out, firstE_at hz hx H0.out]
          simp
      · obtain rfl : j = p.length := by omega
        go_wp2_with first | ((with_reducible refine tot_done ?ht ?_); (case ht => kernel_rfl)) | ((with_reducible apply wps_loada (T := 216) (k := 5) S 0); (case hx | hi => rfl); (case hk => exact Nat.le_of_ble_eq_true rfl); (case hT => decide +kernel))
        go_ret2
        refine ⟨?_, S.below⟩
        have hz : ∀ (q : Nat) y, (p.map (mayE · p.length))[q]? = some y → y = 0 := fun q y hy => by
          rw [List.getElem?_map] at hy
          cases hp : p[q]? with
          | none => rw [hp] at hy; cases hy
          | some z => rw [hp] at hy; simp at hy; subst hy; exact Hz.out q z (List.getElem?_eq_some_iff.1 hp).1 hp
        rw [HE.out.1, HE.out.2, firstE_none hz, whereE_none (fun x hx => by obtain ⟨q, hq, rfl⟩ := List.mem_iff_getElem.1 hx; exact hz q _ (List.getElem?_eq_getElem hq))]
        simp
theorem cfg_sizes {c : Cfg} (h : ¬ sizesOk c) : cfgE c = 10 := by
  unfold cfgE; rw [show sizesE c = 10 from if_neg h]; rfl
theorem cfg_starts {c : Cfg} (h : sizesOk c) (h2 : 256 < c.starts.length) : cfgE c = 11 := by
  unfold cfgE; rw [show sizesE c = 0 from if_pos h, show startsE c = 11 from if_pos h2]; rfl
theorem cfg_prog {c : Cfg} (h : sizesOk c) (h2 : ¬ 256 < c.starts.length) {m : Int} (h3 : programsE c = m) (h4 : m ≠ 0) : cfgE c = m := by
  unfold cfgE; rw [show sizesE c = 0 from if_pos h, show startsE c = 0 from if_neg h2, h3]; simp [firstE, h4]
theorem cfg_ends {c : Cfg} (h : sizesOk c) (h2 : ¬ 256 < c.starts.length) (h3 : programsE c = 0) (h4 : ¬ ((∀ p ∈ c.lps, 0 ≤ p.program ∧ p.program < c.programs.length) ∧ (∀ s ∈ c.starts, 0 ≤ s.dst ∧ s.dst < c.lps.length))) : cfgE c = 14 := by
  unfold cfgE; rw [show sizesE c = 0 from if_pos h, show startsE c = 0 from if_neg h2, h3, show endsE c = 14 from if_neg h4]; rfl
theorem cfg_times {c : Cfg} (h : sizesOk c) (h2 : ¬ 256 < c.starts.length) (h3 : programsE c = 0) (h4 : (∀ p ∈ c.lps, 0 ≤ p.program ∧ p.program < c.programs.length) ∧ (∀ s ∈ c.starts, 0 ≤ s.dst ∧ s.dst < c.lps.length)) (h5 : ¬ ∀ s ∈ c.starts, 0 ≤ s.at_ ∧ s.at_ ≤ c.fin) : cfgE c = 18 := by
  unfold cfgE; rw [show sizesE c = 0 from if_pos h, show startsE c = 0 from if_neg h2, h3, show endsE c = 0 from if_pos h4, show timesE c = 18 from if_neg h5]; rfl
theorem cfg_fine {c : Cfg} (h : sizesOk c) (h2 : ¬ 256 < c.starts.length) (h3 : programsE c = 0) (h4 : (∀ p ∈ c.lps, 0 ≤ p.program ∧ p.program < c.programs.length) ∧ (∀ s ∈ c.starts, 0 ≤ s.dst ∧ s.dst < c.lps.length)) (h5 : ∀ s ∈ c.starts, 0 ≤ s.at_ ∧ s.at_ ≤ c.fin) : cfgE c = 0 := by
  unfold cfgE; rw [show sizesE c = 0 from if_pos h, show startsE c = 0 from if_neg h2, h3, show endsE c = 0 from if_pos h4, show timesE c = 0 from if_pos h5]; rfl
end Go.Proofs.YtmpfbkfemlhekaaGreatDoor
/- The walk of the reference's Check of configurations. -/
namespace Go.Proofs.YtmpfbkfemlhekaaGreatDoor
open Go Go.RowKit Reg Mem

def RcRel (bx : Nat) (vP vL vS : Value) (hs : List Value) (c : Cfg) (n : Nat) (D : Nat → Prop) (w : World) (i : Value) (wr : World) : Prop :=
  ∃ j : Nat, j ≤ n ∧ i = .int .i64 j ∧ Hid (D j) ∧ St (fun _ => False) w wr [Blk false bx #[vP, vL, vS, .int .i64 c.fin, .int .i64 c.fuel, .int .i64 c.fan] 33, Sls true Instr.cells 5 hs c.programs, Sl true vcell 1 vP hs, Sl true Place.cells 5 vL c.lps, Sl true Start.cells 4 vS c.starts]
set_option maxRecDepth 100000 in
set_option maxHeartbeats 16000000 in
theorem refcheck_calls (vs hs : List Value) (c : Cfg) (w : World) (F : Nat → Prop) (h : (CfgA true vs hs c).at_ w F) (hm : Mid c) : Calls Tryz.prog 32 #[.agg vs.toArray] w fun r w' => r = .returned (.int .i64 (cfgE c)) ∧ Below w.heap.size w w' := by
  have S : St (fun _ => False) w w [CfgA true vs hs c] := (St.init _ w).share rfl rfl h
  obtain ⟨aP, cP, aL, cL, aS, cS, rfl, hlen, S⟩ := S.cfg 0 rfl
  replace S := S.pick [0, 1, 2, 3] rfl
  simp only [pick, nth] at S
  clear h
  have hp1 := hm.p
  have hp2 := hm.l
  have hp3 := hm.s
  clear hm
  by_cases hz : sizesOk c
  case neg =>
    have HE := Lib.hid (cfg_sizes hz)
    unfold sizesOk at hz
    by_cases g0 : (c.lps.length : Int) < 1
    · go_enter Tryz.func32, Tryz.ntmps32
      go_wp2_with first | go_skip | ((with_reducible apply wps_boxa S); (case hx => rfl); clear S; intro bx wz S) | ((with_reducible apply wps_load S 0); (case hx | hi | hu => rfl); (case hT => decide +kernel))
      go_ret
      exact ⟨ret_int HE.out.symm, S.below⟩
    by_cases g1 : (32 : Int) < c.lps.length
    · go_enter Tryz.func32, Tryz.ntmps32
      go_wp2_with first | go_skip | ((with_reducible apply wps_boxa S); (case hx => rfl); clear S; intro bx wz S) | ((with_reducible apply wps_load S 0); (case hx | hi | hu => rfl); (case hT => decide +kernel))
      go_ret
      exact ⟨ret_int HE.out.symm, S.below⟩
    by_cases g2 : (c.programs.length : Int) < 1
    · go_enter Tryz.func32, Tryz.ntmps32
      go_wp2_with first | go_skip | ((with_reducible apply wps_boxa S); (case hx => rfl); clear S; intro bx wz S) | ((with_reducible apply wps_load S 0); (case hx | hi | hu => rfl); (case hT => decide +kernel))
      go_ret
      exact ⟨ret_int HE.out.symm, S.below⟩
    by_cases g3 : (32 : Int) < c.programs.length
    · go_enter Tryz.func32, Tryz.ntmps32
      go_wp2_with first | go_skip | ((with_reducible apply wps_boxa S); (case hx => rfl); clear S; intro bx wz S) | ((with_reducible apply wps_load S 0); (case hx | hi | hu => rfl); (case hT => decide +kernel))
      go_ret
      exact ⟨ret_int HE.out.symm, S.below⟩
    by_cases g4 : c.fin < 1
    · go_enter Tryz.func32, Tryz.ntmps32
      go_wp2_with first | go_skip | ((with_reducible apply wps_boxa S); (case hx => rfl); clear S; intro bx wz S) | ((with_reducible apply wps_load S 0); (case hx | hi | hu => rfl); (case hT => decide +kernel))
      go_ret
      exact ⟨ret_int HE.out.symm, S.below⟩
    by_cases g5 : 1073741824 < c.fin
    · go_enter Tryz.func32, Tryz.ntmps32
      go_wp2_with first | go_skip | ((with_reducible apply wps_boxa S); (case hx => rfl); clear S; intro bx wz S) | ((with_reducible apply wps_load S 0); (case hx | hi | hu => rfl); (case hT => decide +kernel))
      go_ret
      exact ⟨ret_int HE.out.symm, S.below⟩
    by_cases g6 : c.fuel < 1
    · go_enter Tryz.func32, Tryz.ntmps32
      go_wp2_with first | go_skip | ((with_reducible apply wps_boxa S); (case hx => rfl); clear S; intro bx wz S) | ((with_reducible apply wps_load S 0); (case hx | hi | hu => rfl); (case hT => decide +kernel))
      go_ret
      exact ⟨ret_int HE.out.symm, S.below⟩
    by_cases g7 : 1024 < c.fuel
    · go_enter Tryz.func32, Tryz.ntmps32
      go_wp2_with first | go_skip | ((with_reducible apply wps_boxa S); (case hx => rfl); clear S; intro bx wz S) | ((with_reducible apply wps_load S 0); (case hx | hi | hu => rfl); (case hT => decide +kernel))
      go_ret
      exact ⟨ret_int HE.out.symm, S.below⟩
    by_cases g8 : c.fan < 0
    · go_enter Tryz.func32, Tryz.ntmps32
      go_wp2_with first | go_skip | ((with_reducible apply wps_boxa S); (case hx => rfl); clear S; intro bx wz S) | ((with_reducible apply wps_load S 0); (case hx | hi | hu => rfl); (case hT => decide +kernel))
      go_ret
      exact ⟨ret_int HE.out.symm, S.below⟩
    by_cases g9 : 8 < c.fan
    · go_enter Tryz.func32, Tryz.ntmps32
      go_wp2_with first | ((with_reducible apply wps_boxa S); (case hx => rfl); clear S; intro bx wz S) | ((with_reducible apply wps_load S 0); (case hx | hi | hu => rfl); (case hT => decide +kernel))
      go_ret
      exact ⟨ret_int HE.out.symm, S.below⟩
    exfalso
    apply hz
    omega
  case pos =>
    have HZ := Lib.hid hz
    unfold sizesOk at hz
    have z1 : ¬ (c.lps.length : Int) < 1 := by omega
    have z2 : ¬ (32 : Int) < c.lps.length := by omega
    have z3 : ¬ (c.programs.length : Int) < 1 := by omega
    have z4 : ¬ (32 : Int) < c.programs.length := by omega
    have z5 : ¬ c.fin < 1 := by omega
    have z6 : ¬ 1073741824 < c.fin := by omega
    have z7 : ¬ c.fuel < 1 := by omega
    have z8 : ¬ 1024 < c.fuel := by omega
    have z9 : ¬ c.fan < 0 := by omega
    have z10 : ¬ 8 < c.fan := by omega
    clear hz
    by_cases gs : (256 : Int) < c.starts.length
    · have HE := Lib.hid (cfg_starts HZ.out (by omega))
      go_enter Tryz.func32, Tryz.ntmps32
      go_wp2_with first | ((with_reducible apply wps_boxa S); (case hx => rfl); clear S; intro bx wz S) | ((with_reducible apply wps_load S 0); (case hx | hi | hu => rfl); (case hT => decide +kernel))
      go_ret
      exact ⟨ret_int HE.out.symm, S.below⟩
    have gs2 : ¬ 256 < c.starts.length := by omega
    go_enter Tryz.func32, Tryz.ntmps32
    go_wp2_with first | ((with_reducible apply wps_boxa S); (case hx => rfl); clear S; intro bx wz S) | ((with_reducible apply wps_load S 0); (case hx | hi | hu => rfl); (case hT => decide +kernel))
    clear z1 z2 z3 z4 z5 z6 z7 z8 z9 z10
    go_loopw [3] (fun i wr => RcRel bx (.slice aP c.programs.length cP) (.slice aL c.lps.length cL) (.slice aS c.starts.length cS) hs c c.programs.length (fun j => ∀ (q : Nat) y, q < j → c.programs[q]? = some y → codeE y = 0) w i wr) (fun i _ => c.programs.length - (intOf i).toNat)
    case atStart => exact ⟨0, Nat.zero_le _, rfl, fun q y h => by omega, S⟩
    case round =>
      clear S
      obtain ⟨j, hj, rfl, Hz, S⟩ := hrel
      by_cases hlt : j < c.programs.length
      · obtain ⟨p, hp⟩ : ∃ p, c.programs[j]? = some p := ⟨_, List.getElem?_eq_getElem hlt⟩
        obtain ⟨v, hv⟩ : ∃ v, hs[j]? = some v := ⟨_, List.getElem?_eq_getElem (by omega)⟩
        obtain ⟨R, o, rfl⟩ : ∃ R o, aP = some ⟨R, o, none⟩ := (S.sl 2 rfl).elim fun F h => h.head (by omega)
        have hlt2 : (j : Int) < c.programs.length := by omega
        obtain ⟨m, hm⟩ : ∃ m, codeE p = m := ⟨_, rfl⟩
        have hc := fun w F h => rcode_calls v p w F h
        rw [hm] at hc
        have Hp := Lib.hid hp
        have Hv := Lib.hid hv
        have Hc := Lib.hid hc
        have Hm := Lib.hid hm
        clear hp hv hc hm
        by_cases h0 : m = 0
        · subst h0
          go_wp2_with first | ((with_reducible apply wps_load_el S 2 (hj := Hv.out) (q := 0) (u := v)); (case hx | hi => rfl); (case hn => omega); (case hu => rfl); (case hT => decide +kernel)) | (go_at_call 65; refine Calls.mono (Hc.out _ _ ((S.slsEl 1 rfl Hv.out Hp.out).get (i := 0) rfl).choose_spec) ?_; rintro e wz ⟨rfl, hE⟩; replace S := S.ext (Keep.of_below hE); clear hE) | ((with_reducible apply wps_load S 0); (case hx | hi | hu => rfl); (case hT => decide +kernel))
          go_roundw
          case rel => exact ⟨j + 1, by omega, by go_num, snoc_all Hz.out Hp.out Hm.out, S⟩
          case measure => first | (simp [intOf]; done) | (simp [intOf]; omega)
        · have h1 : (m != 0) = true := by simpa using h0
          have H0 := Lib.hid h0
          clear h0
          go_wp2_with first | ((with_reducible apply wps_load_el S 2 (hj := Hv.out) (q := 0) (u := v)); (case hx | hi => rfl); (case hn => omega); (case hu => rfl); (case hT => decide +kernel)) | (go_at_call 65; refine Calls.mono (Hc.out _ _ ((S.slsEl 1 rfl Hv.out Hp.out).get (i := 0) rfl).choose_spec) ?_; rintro e wz ⟨rfl, hE⟩; replace S := S.ext (Keep.of_below hE); clear hE) | ((with_reducible apply wps_load S 0); (case hx | hi | hu => rfl); (case hT => decide +kernel))
          go_ret
          refine ⟨ret_int (cfg_prog HZ.out gs2 ?_ H0.out).symm, S.below⟩
          refine firstE_at (j := j) (fun q y hq hy => ?_) (by rw [List.getElem?_map, Hp.out]; simp [Hm.out]) H0.out
          rw [List.getElem?_map] at hy
          cases hp : c.programs[q]? with
          | none => rw [hp] at hy; cases hy
          | some z => rw [hp] at hy; simp at hy; subst hy; exact Hz.out q z hq hp
      · obtain rfl : j = c.programs.length := by omega
        have H3 : Hid (programsE c = 0) := firstE_zero.2 fun x hx => by
          obtain ⟨p, hp, rfl⟩ := List.mem_map.1 hx
          exact all_of Hz.out p hp
        clear Hz
        go_wp2_with first | ((with_reducible apply wps_load S 0); (case hx | hi | hu => rfl); (case hT => decide +kernel))
        go_loopw [6] (fun i wr => RcRel bx (.slice aP c.programs.length cP) (.slice aL c.lps.length cL) (.slice aS c.starts.length cS) hs c c.lps.length (fun j => ∀ (q : Nat) y, q < j → c.lps[q]? = some y → 0 ≤ y.program ∧ y.program < c.programs.length) w i wr) (fun i _ => c.lps.length - (intOf i).toNat)
        case atStart => exact ⟨0, Nat.zero_le _, rfl, fun q y h => by omega, S⟩
        case round =>
          clear S
          obtain ⟨j, hj, rfl, Hz, S⟩ := hrel
          by_cases hlt : j < c.lps.length
          · obtain ⟨p, hp⟩ : ∃ p, c.lps[j]? = some p := ⟨_, List.getElem?_eq_getElem hlt⟩
            obtain ⟨R, o, rfl⟩ : ∃ R o, aL = some ⟨R, o, none⟩ := (S.sl 3 rfl).elim fun F h => h.head (by omega)
            have hlt2 : (j : Int) < c.lps.length := by omega
            have Hp := Lib.hid hp
            clear hp
            by_cases g1 : p.program < 0
            · go_wp2_with first | ((with_reducible refine wpList_skip ?hw ?_); (case hw => with_unfolding_all rfl); simp only [Act.put, List.setIfInBounds_toArray, List.set_cons_succ, List.set_cons_zero]) | ((with_reducible apply wps_load_el S 3 (hj := Hp.out) (q := 0) (u := .int .i64 p.program)); (case hx | hi => rfl); (case hn => omega); (case hu => rfl); (case hT => decide +kernel)) | ((with_reducible refine tot_done ?ht ?_); (case ht => kernel_rfl)) | ((with_reducible apply wps_text S); (case hm => kernel_rfl); (case hB => decide +kernel); clear S; intro wz S) | ((with_reducible apply wps_load S 0); (case hx | hi | hu => rfl); (case hT => decide +kernel))
              go_ret
              exact ⟨ret_int (cfg_ends HZ.out gs2 H3.out (by rintro ⟨h, _⟩; have := (h p (List.mem_of_getElem? Hp.out)).1; omega)).symm, S.below⟩
            by_cases g2 : (c.programs.length : Int) ≤ p.program
            · go_wp2_with first | ((with_reducible apply wps_load_el S 3 (hj := Hp.out) (q := 0) (u := .int .i64 p.program)); (case hx | hi => rfl); (case hn => omega); (case hu => rfl); (case hT => decide +kernel)) | ((with_reducible refine tot_done ?ht ?_); (case ht => kernel_rfl)) | ((with_reducible apply wps_text S); (case hm => kernel_rfl); (case hB => decide +kernel); clear S; intro wz S) | ((with_reducible apply wps_load S 0); (case hx | hi | hu => rfl); (case hT => decide +kernel))
              go_ret
              exact ⟨ret_int (cfg_ends HZ.out gs2 H3.out (by rintro ⟨h, _⟩; have := (h p (List.mem_of_getElem? Hp.out)).2; omega)).symm, S.below⟩
            go_wp2_with first | ((with_reducible apply wps_load_el S 3 (hj := Hp.out) (q := 0) (u := .int .i64 p.program)); (case hx | hi => rfl); (case hn => omega); (case hu => rfl); (case hT => decide +kernel)) | ((with_reducible refine tot_done ?ht ?_); (case ht => kernel_rfl)) | ((with_reducible apply wps_text S); (case hm => kernel_rfl); (case hB => decide +kernel); clear S; intro wz S) | ((with_reducible apply wps_load S 0); (case hx | hi | hu => rfl); (case hT => decide +kernel))
            go_roundw
            case rel => exact ⟨j + 1, by omega, by go_num, snoc_all Hz.out Hp.out ⟨by omega, by omega⟩, S⟩
            case measure => first | (simp [intOf]; done) | (simp [intOf]; omega)
          · obtain rfl : j = c.lps.length := by omega
            have H4 := Lib.hid (all_of Hz.out)
            clear Hz
            go_wp2_with first | ((with_reducible apply wps_load S 0); (case hx | hi | hu => rfl); (case hT => decide +kernel))
            go_loopw [7] (fun i wr => RcRel bx (.slice aP c.programs.length cP) (.slice aL c.lps.length cL) (.slice aS c.starts.length cS) hs c c.starts.length (fun j => ∀ (q : Nat) (y : Start), q < j → c.starts[q]? = some y → 0 ≤ y.dst ∧ y.dst < c.lps.length) w i wr) (fun i _ => c.starts.length - (intOf i).toNat)
            case atStart => exact ⟨0, Nat.zero_le _, rfl, fun q y h => by omega, S⟩
            case round =>
              clear S
              obtain ⟨j, hj, rfl, Hz, S⟩ := hrel
              by_cases hlt : j < c.starts.length
              · obtain ⟨p, hp⟩ : ∃ p, c.starts[j]? = some p := ⟨_, List.getElem?_eq_getElem hlt⟩
                obtain ⟨R, o, rfl⟩ : ∃ R o, aS = some ⟨R, o, none⟩ := (S.sl 4 rfl).elim fun F h => h.head (by omega)
                have hlt2 : (j : Int) < c.starts.length := by omega
                have Hp := Lib.hid hp
                clear hp
                by_cases g1 : p.dst < 0
                · go_wp2_with first | ((with_reducible refine wpList_skip ?hw ?_); (case hw => with_unfolding_all rfl); simp only [Act.put, List.setIfInBounds_toArray, List.set_cons_succ, List.set_cons_zero]) | ((with_reducible apply wps_load_el S 4 (hj := Hp.out) (q := 0) (u := .int .i64 p.dst)); (case hx | hi => rfl); (case hn => omega); (case hu => rfl); (case hT => decide +kernel)) | ((with_reducible refine tot_done ?ht ?_); (case ht => kernel_rfl)) | ((with_reducible apply wps_text S); (case hm => kernel_rfl); (case hB => decide +kernel); clear S; intro wz S) | ((with_reducible apply wps_load S 0); (case hx | hi | hu => rfl); (case hT => decide +kernel))
                  go_ret
                  exact ⟨ret_int (cfg_ends HZ.out gs2 H3.out (by rintro ⟨_, h⟩; have := (h p (List.mem_of_getElem? Hp.out)).1; omega)).symm, S.below⟩
                by_cases g2 : (c.lps.length : Int) ≤ p.dst
                · go_wp2_with first | ((with_reducible apply wps_load_el S 4 (hj := Hp.out) (q := 0) (u := .int .i64 p.dst)); (case hx | hi => rfl); (case hn => omega); (case hu => rfl); (case hT => decide +kernel)) | ((with_reducible refine tot_done ?ht ?_); (case ht => kernel_rfl)) | ((with_reducible apply wps_text S); (case hm => kernel_rfl); (case hB => decide +kernel); clear S; intro wz S) | ((with_reducible apply wps_load S 0); (case hx | hi | hu => rfl); (case hT => decide +kernel))
                  go_ret
                  exact ⟨ret_int (cfg_ends HZ.out gs2 H3.out (by rintro ⟨_, h⟩; have := (h p (List.mem_of_getElem? Hp.out)).2; omega)).symm, S.below⟩
                go_wp2_with first | ((with_reducible apply wps_load_el S 4 (hj := Hp.out) (q := 0) (u := .int .i64 p.dst)); (case hx | hi => rfl); (case hn => omega); (case hu => rfl); (case hT => decide +kernel)) | ((with_reducible refine tot_done ?ht ?_); (case ht => kernel_rfl)) | ((with_reducible apply wps_text S); (case hm => kernel_rfl); (case hB => decide +kernel); clear S; intro wz S) | ((with_reducible apply wps_load S 0); (case hx | hi | hu => rfl); (case hT => decide +kernel))
                go_roundw
                case rel => exact ⟨j + 1, by omega, by go_num, snoc_all Hz.out Hp.out ⟨by omega, by omega⟩, S⟩
                case measure => first | (simp [intOf]; done) | (simp [intOf]; omega)
              · obtain rfl : j = c.starts.length := by omega
                have H5 := Lib.hid (all_of Hz.out)
                clear Hz
                go_wp2_with first | ((with_reducible apply wps_load S 0); (case hx | hi | hu => rfl); (case hT => decide +kernel))
                go_loopw [8] (fun i wr => RcRel bx (.slice aP c.programs.length cP) (.slice aL c.lps.length cL) (.slice aS c.starts.length cS) hs c c.starts.length (fun j => ∀ (q : Nat) (y : Start), q < j → c.starts[q]? = some y → 0 ≤ y.at_ ∧ y.at_ ≤ c.fin) w i wr) (fun i _ => c.starts.length - (intOf i).toNat)
                case atStart => exact ⟨0, Nat.zero_le _, rfl, fun q y h => by omega, S⟩
                case round =>
                  clear S
                  obtain ⟨j, hj, rfl, Hz, S⟩ := hrel
                  by_cases hlt : j < c.starts.length
                  · obtain ⟨p, hp⟩ : ∃ p, c.starts[j]? = some p := ⟨_, List.getElem?_eq_getElem hlt⟩
                    obtain ⟨R, o, rfl⟩ : ∃ R o, aS = some ⟨R, o, none⟩ := (S.sl 4 rfl).elim fun F h => h.head (by omega)
                    have hlt2 : (j : Int) < c.starts.length := by omega
                    have Hp := Lib.hid hp
                    clear hp
                    by_cases g1 : p.at_ < 0
                    · go_wp2_with first | ((with_reducible refine wpList_skip ?hw ?_); (case hw => with_unfolding_all rfl); simp only [Act.put, List.setIfInBounds_toArray, List.set_cons_succ, List.set_cons_zero]) | ((with_reducible apply wps_load_el S 4 (hj := Hp.out) (q := 1) (u := .int .i64 p.at_)); (case hx | hi => rfl); (case hn => omega); (case hu => rfl); (case hT => decide +kernel)) | ((with_reducible refine tot_done ?ht ?_); (case ht => kernel_rfl)) | ((with_reducible apply wps_text S); (case hm => kernel_rfl); (case hB => decide +kernel); clear S; intro wz S) | ((with_reducible apply wps_load S 0); (case hx | hi | hu => rfl); (case hT => decide +kernel))
                      go_ret
                      exact ⟨ret_int (cfg_times HZ.out gs2 H3.out ⟨H4.out, H5.out⟩ (by intro h; have := (h p (List.mem_of_getElem? Hp.out)).1; omega)).symm, S.below⟩
                    by_cases g2 : c.fin < p.at_
                    · go_wp2_with first | ((with_reducible apply wps_load_el S 4 (hj := Hp.out) (q := 1) (u := .int .i64 p.at_)); (case hx | hi => rfl); (case hn => omega); (case hu => rfl); (case hT => decide +kernel)) | ((with_reducible refine tot_done ?ht ?_); (case ht => kernel_rfl)) | ((with_reducible apply wps_text S); (case hm => kernel_rfl); (case hB => decide +kernel); clear S; intro wz S) | ((with_reducible apply wps_load S 0); (case hx | hi | hu => rfl); (case hT => decide +kernel))
                      go_ret
                      exact ⟨ret_int (cfg_times HZ.out gs2 H3.out ⟨H4.out, H5.out⟩ (by intro h; have := (h p (List.mem_of_getElem? Hp.out)).2; omega)).symm, S.below⟩
                    go_wp2_with first | ((with_reducible apply wps_load_el S 4 (hj := Hp.out) (q := 1) (u := .int .i64 p.at_)); (case hx | hi => rfl); (case hn => omega); (case hu => rfl); (case hT => decide +kernel)) | ((with_reducible refine tot_done ?ht ?_); (case ht => kernel_rfl)) | ((with_reducible apply wps_text S); (case hm => kernel_rfl); (case hB => decide +kernel); clear S; intro wz S) | ((with_reducible apply wps_load S 0); (case hx | hi | hu => rfl); (case hT => decide +kernel))
                    go_roundw
                    case rel => exact ⟨j + 1, by omega, by go_num, snoc_all Hz.out Hp.out ⟨by omega, by omega⟩, S⟩
                    case measure => first | (simp [intOf]; done) | (simp [intOf]; omega)
                  · obtain rfl : j = c.starts.length := by omega
                    go_wp2_with first | ((with_reducible apply wps_load S 0); (case hx | hi | hu => rfl); (case hT => decide +kernel))
                    go_ret
                    exact ⟨ret_int (cfg_fine HZ.out gs2 H3.out ⟨H4.out, H5.out⟩ (all_of Hz.out)).symm, S.below⟩
end Go.Proofs.YtmpfbkfemlhekaaGreatDoor
/- The walks of the law's Made and timely. -/
namespace Go.Proofs.YtmpfbkfemlhekaaGreatDoor
open Go Go.RowKit Reg Mem

section
variable {G : Nat → Prop} {w0 w : World} {L : List Asn}
theorem Mem.St.rcfgNew {vH vR vT : Value} {gs : List Hd} {c : Cfg} (S : St G w0 w (Own 151 hcell 1 vH gs :: Ows 216 Instr.cells 5 (gs.map Hd.val) c.programs :: Own 156 Place.cells 5 vR c.lps :: Own 157 Start.cells 4 vT c.starts :: L)) :
    St G w0 w (CfgA false [vH, vR, vT, .int .i64 c.fin, .int .i64 c.fuel, .int .i64 c.fan] (gs.map Hd.val) c :: L) := by
  have S1 := ((S.both rfl rfl).both rfl rfl).both rfl rfl
  have := S1.weak (i := 0) (A' := CfgA false [vH, vR, vT, .int .i64 c.fin, .int .i64 c.fuel, .int .i64 c.fan] (gs.map Hd.val) c) rfl (fun _ => rfl) fun F h => ?_
  · simpa using this
  · obtain ⟨F3, F4, ⟨F5, F6, ⟨F7, F8, h1, h2, e4⟩, h3, e3⟩, h4, e2⟩ := h
    have i1 : ∀ b, F7 b → F b := fun b h => (e2 b).2 (.inl ((e3 b).2 (.inl ((e4 b).2 (.inl h)))))
    have i2 : ∀ b, F8 b → F b := fun b h => (e2 b).2 (.inl ((e3 b).2 (.inl ((e4 b).2 (.inr h)))))
    have i3 : ∀ b, F6 b → F b := fun b h => (e2 b).2 (.inl ((e3 b).2 (.inr h)))
    have i4 : ∀ b, F4 b → F b := fun b h => (e2 b).2 (.inr h)
    have k1 := own_sl (sh := true) hdcells h1
    have k3 := own_sl (sh := true) plcells h3
    have k4 := own_sl (sh := true) stcells h4
    have k1' : (Sl true vcell 1 vH (gs.map Hd.val)).at_ w F7 := ⟨slat_map Hd.val (fun _ => rfl) k1.1, k1.2⟩
    refine ⟨F, fun _ h => h, ⟨⟨⟨vH, vR, vT, rfl, k1'.1.mono i1, k3.1.mono i3, k4.1.mono i4⟩, (ows_sls incells h2).1.mono i2⟩, fun b hb => ?_⟩⟩
    rcases (e2 b).1 hb with h | h
    · rcases (e3 b).1 h with h | h
      · rcases (e4 b).1 h with h | h
        · exact k1.2 b h
        · exact h2.2 b h
      · exact k3.2 b h
    · exact k4.2 b h
end
def madeB (c : Cfg) : Bool := fewB c && decide (cfgE c = 0)
def MadePost (c : Cfg) (w : World) (r : Ending) (w' : World) : Prop :=
  ∃ pv vs2 hs2, r = .returned (.tuple #[pv, .agg (List.toArray vs2)]) ∧
    ((madeB c = false ∧ pv = .pointer none ∧ St (fun _ => False) w w' [CfgA false vs2 hs2 c]) ∨
     (madeB c = true ∧ ∃ R vs hs, pv = .pointer (some ⟨R, 0, none⟩) ∧ St (fun _ => False) w w' [ModA false 106 R vs hs c, CfgA false vs2 hs2 c]))
set_option maxRecDepth 100000 in
set_option maxHeartbeats 16000000 in
theorem made_calls (vs hs : List Value) (c : Cfg) (w : World) (F F2 : Nat → Prop) (h : (CfgA true vs hs c).at_ w F) (hw : Wide c) (hwb : WideB c) (ht : Tab.at_ w F2) : Calls Tryz.prog 8 #[.agg vs.toArray] w (MadePost c w) := by
  have S : St (fun _ => False) w w [CfgA true vs hs c, Tab] := ((St.init _ w).share rfl rfl ht).share rfl rfl h
  clear h ht
  obtain ⟨aP, cP, aL, cL, aS, cS, rfl, hlen, _⟩ := S.cfg 0 rfl
  have HF : Hid (∀ w F, (CfgA true [.slice aP c.programs.length cP, .slice aL c.lps.length cL, .slice aS c.starts.length cS, .int .i64 c.fin, .int .i64 c.fuel, .int .i64 c.fan] hs c).at_ w F →
      Calls Tryz.prog 31 #[.agg #[.slice aP c.programs.length cP, .slice aL c.lps.length cL, .slice aS c.starts.length cS, .int .i64 c.fin, .int .i64 c.fuel, .int .i64 c.fan]] w fun r w' => r = .returned (.bool (fewB c)) ∧ Below w.heap.size w w') :=
    fun w F h => few_calls _ hs c w F h hw
  have hmw : MidW c := ⟨hwb.p, hwb.l, hwb.s⟩
  have hmw2 := hwb.q
  clear hlen
  go_enter Tryz.func8, Tryz.ntmps8
  go_wp2_with first | go_skip | ((with_reducible refine wpList_skip ?hw ?_); (case hw => with_unfolding_all rfl); simp only [Act.put, List.setIfInBounds_toArray, List.set_cons_succ, List.set_cons_zero]) | ((with_reducible apply wps_boxa (E := 26) S); (case hx => rfl); clear S; intro bx wz S) | ((with_reducible apply wps_alloca (E := 33) S); (case hz => exact Tryz.zeroValue33); clear S; intro b3 wz S) | ((with_reducible apply wps_loada (T := 26) (k := 6) S 1); (case hx | hi => rfl); (case hk => exact Nat.le_of_ble_eq_true rfl); (case hT => decide +kernel)) | ((with_reducible refine tot_done ?ht ?_); (case ht => kernel_rfl)) | ((with_reducible apply wps_text S); (case hm => kernel_rfl); (case hB => decide +kernel); clear S; intro wz S) | ((with_reducible apply wps_boxa S); (case hx => rfl); clear S; intro bz wz S) | ((with_reducible apply wps_box1 (v := .int _ _) S); (case hx | h1 => rfl); clear S; intro bz wz S) | ((with_reducible apply wps_box1 (v := .bool _) S); (case hx | h1 => rfl); clear S; intro bz wz S) | ((with_reducible apply wps_box1 (v := .slice _ _ _) S); (case hx | h1 => rfl); clear S; intro bz wz S) | ((with_reducible apply wps_box1 (v := .pointer _) S); (case hx | h1 => rfl); clear S; intro bz wz S) | ((with_reducible apply wps_box1 (v := .map _) S); (case hx | h1 => rfl); clear S; intro bz wz S) | ((with_reducible apply wps_box1 (v := .string _) S); (case hx | h1 => rfl); clear S; intro bz wz S) | ((with_reducible apply wps_box1 (v := .func _ _ _) S); (case hx | h1 => rfl); clear S; intro bz wz S) | ((with_reducible apply wps_alloca (E := 33) S); (case hz => exact Tryz.zeroValue33); clear S; intro bz wz S) | ((with_reducible apply wps_loada (T := 26) (k := 6) S 0); (case hx | hi => rfl); (case hk => exact Nat.le_of_ble_eq_true rfl); (case hT => decide +kernel)) | ((with_reducible apply wps_loada (T := 33) (k := 6) S 0); (case hx | hi => rfl); (case hk => exact Nat.le_of_ble_eq_true rfl); (case hT => decide +kernel))
  refine Calls.mono (cplainW_calls [.slice aP c.programs.length cP, .slice aL c.lps.length cL, .slice aS c.starts.length cS, .int .i64 c.fin, .int .i64 c.fuel, .int .i64 c.fan] hs c _ _ (S.get (i := 2) rfl).choose_spec hmw hmw2) ?_
  rintro e wz ⟨gs, vH, vR, vT, rfl, hgs, T⟩
  replace S := S.join T rfl
  simp only [List.cons_append, List.nil_append] at S
  clear T
  obtain ⟨aH, cH, rfl⟩ : ∃ a c, _ = Value.slice a gs.length c := (S.get (i := 0) rfl).elim fun F h => h.1.form
  obtain ⟨aR, cR, rfl⟩ : ∃ a d, _ = Value.slice a c.lps.length d := (S.get (i := 2) rfl).elim fun F h => h.1.form
  obtain ⟨aT, cT, rfl⟩ : ∃ a d, _ = Value.slice a c.starts.length d := (S.get (i := 3) rfl).elim fun F h => h.1.form
  replace S := S.rcfgNew
  generalize gs.map Hd.val = hs2 at *
  generalize gs.length = gn at *
  clear hgs
  have fin0 : ∀ (w' : World), madeB c = false → St (fun _ => False) w w' [CfgA false [.slice aH gn cH, .slice aR c.lps.length cR, .slice aT c.starts.length cT, .int .i64 c.fin, .int .i64 c.fuel, .int .i64 c.fan] hs2 c] →
      MadePost c w (.returned (.tuple #[.pointer none, .agg #[.slice aH gn cH, .slice aR c.lps.length cR, .slice aT c.starts.length cT, .int .i64 c.fin, .int .i64 c.fuel, .int .i64 c.fan]])) w' := fun w' hm S => ⟨_, [.slice aH gn cH, .slice aR c.lps.length cR, .slice aT c.starts.length cT, .int .i64 c.fin, .int .i64 c.fuel, .int .i64 c.fan], hs2, rfl, .inl ⟨hm, rfl, S⟩⟩
  have Fin0 := Lib.hid fin0
  clear fin0
  replace S := S.pick [0, 2, 3, 4, 1] rfl
  repeat (first | simp only at S | simp only [pick] at S | simp only [nth] at S | simp only [List.set_cons_succ] at S | simp only [List.set_cons_zero] at S | simp only [List.setIfInBounds_toArray] at S | simp only [setAll] at S | simp only [List.cons_append] at S | simp only [List.nil_append] at S | simp only [List.append_nil] at S)
  cases hf : fewB c with
  | false =>
    rw [hf] at HF
    have Hm : Hid (madeB c = false) := by show _ = _; unfold madeB; rw [hf]; rfl
    clear hf hw
    go_wp2_with first | go_skip | ((with_reducible refine wpList_skip ?hw ?_); (case hw => with_unfolding_all rfl); simp only [Act.put, List.setIfInBounds_toArray, List.set_cons_succ, List.set_cons_zero]) | ((with_reducible apply wps_alloca (E := 33) S); (case hz => exact Tryz.zeroValue33); clear S; intro b4 wz S) | ((with_reducible apply wps_storea (T := 33) S 0 (vs := [.slice aH gn cH, .slice aR c.lps.length cR, .slice aT c.starts.length cT, .int .i64 c.fin, .int .i64 c.fuel, .int .i64 c.fan]) (m := 6)); (case hx | hy | hi | hm | h1 => rfl); (case hn => exact Nat.le_of_ble_eq_true rfl); (case hT => decide +kernel); clear S; intro wz S; simp only [List.set_cons_zero, List.set_cons_succ, setAll, List.setIfInBounds_toArray] at S) | ((with_reducible apply wps_loada (T := 26) (k := 6) S 2); (case hx | hi => rfl); (case hk => exact Nat.le_of_ble_eq_true rfl); (case hT => decide +kernel)) | (go_at_call 31; refine Calls.mono (HF.out _ _ (S.get (i := 3) rfl).choose_spec) ?_; rintro e wz ⟨rfl, hE⟩; replace S := S.ext (Keep.of_below hE); clear hE) | ((with_reducible apply wps_loada (T := 33) (k := 6) S 0); (case hx | hi => rfl); (case hk => exact Nat.le_of_ble_eq_true rfl); (case hT => decide +kernel)) | ((with_reducible apply wps_storea (T := 33) S 5 (vs := [.slice aH gn cH, .slice aR c.lps.length cR, .slice aT c.starts.length cT, .int .i64 c.fin, .int .i64 c.fuel, .int .i64 c.fan]) (m := 6)); (case hx | hy | hi | hm | h1 => rfl); (case hn => exact Nat.le_of_ble_eq_true rfl); (case hT => decide +kernel); clear S; intro wz S; simp only [List.set_cons_zero, List.set_cons_succ, setAll, List.setIfInBounds_toArray] at S) | ((with_reducible refine tot_done ?ht ?_); (case ht => kernel_rfl)) | ((with_reducible apply wps_text S); (case hm => kernel_rfl); (case hB => decide +kernel); clear S; intro wz S) | ((with_reducible apply wps_alloca (E := 33) S); (case hz => exact Tryz.zeroValue33); clear S; intro bz wz S) | ((with_reducible apply wps_loada (T := 26) (k := 6) S 0); (case hx | hi => rfl); (case hk => exact Nat.le_of_ble_eq_true rfl); (case hT => decide +kernel)) | ((with_reducible apply wps_loada (T := 33) (k := 6) S 0); (case hx | hi => rfl); (case hk => exact Nat.le_of_ble_eq_true rfl); (case hT => decide +kernel))
    (try simp only [Exit.inBlock, Exit.then]); refine bodyPost_ret (results2 rfl (res_tmp rfl) (S.resA 5 rfl rfl (by kernel_rfl))) rfl ?_
    exact Fin0.out _ Hm.out (S.pick [1] rfl)
  | true =>
    rw [hf] at HF
    have HM := Lib.hid (few_midK hf)
    have HM2 := Lib.hid (few_midK2 hf)
    have Hf := Lib.hid hf
    clear hf hw
    have HR := Lib.hid fun w F h => refcheck_calls [.slice aH gn cH, .slice aR c.lps.length cR, .slice aT c.starts.length cT, .int .i64 c.fin, .int .i64 c.fuel, .int .i64 c.fan] hs2 c w F h HM.out
    have HNw := Lib.hid fun w F F2 h ht => new_calls [.slice aP c.programs.length cP, .slice aL c.lps.length cL, .slice aS c.starts.length cS, .int .i64 c.fin, .int .i64 c.fuel, .int .i64 c.fan] hs c w F F2 h ht HM.out HM2.out
    by_cases h0 : cfgE c = 0
    case neg =>
      have Hm : Hid (madeB c = false) := by show _ = _; unfold madeB; rw [decide_eq_false h0, Bool.and_false]
      obtain ⟨e, he⟩ : ∃ e, cfgE c = e := ⟨_, rfl⟩
      rw [he] at HR h0
      have h1 : (e != 0) = true := by simpa using h0
      clear HNw h0
      have He := Lib.hid he
      clear he
      go_wp2_with first | go_skip | ((with_reducible refine wpList_skip ?hw ?_); (case hw => with_unfolding_all rfl); simp only [Act.put, List.setIfInBounds_toArray, List.set_cons_succ, List.set_cons_zero]) | ((with_reducible apply wps_alloca (E := 33) S); (case hz => exact Tryz.zeroValue33); clear S; intro b4 wz S) | ((with_reducible apply wps_storea (T := 33) S 0 (vs := [.slice aH gn cH, .slice aR c.lps.length cR, .slice aT c.starts.length cT, .int .i64 c.fin, .int .i64 c.fuel, .int .i64 c.fan]) (m := 6)); (case hx | hy | hi | hm | h1 => rfl); (case hn => exact Nat.le_of_ble_eq_true rfl); (case hT => decide +kernel); clear S; intro wz S; simp only [List.set_cons_zero, List.set_cons_succ, setAll, List.setIfInBounds_toArray] at S) | ((with_reducible apply wps_loada (T := 26) (k := 6) S 2); (case hx | hi => rfl); (case hk => exact Nat.le_of_ble_eq_true rfl); (case hT => decide +kernel)) | ((with_reducible apply wps_loada (T := 33) (k := 6) S 0); (case hx | hi => rfl); (case hk => exact Nat.le_of_ble_eq_true rfl); (case hT => decide +kernel)) | (go_at_call 31; refine Calls.mono (HF.out _ _ (S.get (i := 3) rfl).choose_spec) ?_; rintro e wz ⟨rfl, hE⟩; replace S := S.ext (Keep.of_below hE); clear hE) | (go_at_call 32; refine Calls.mono (HR.out _ _ (S.get (i := 1) rfl).choose_spec) ?_; rintro e wz ⟨rfl, hE⟩; replace S := S.ext (Keep.of_below hE); clear hE) | ((with_reducible apply wps_loada (T := 33) (k := 6) S 0); (case hx | hi => rfl); (case hk => exact Nat.le_of_ble_eq_true rfl); (case hT => decide +kernel)) | ((with_reducible apply wps_storea (T := 33) S 5 (vs := [.slice aH gn cH, .slice aR c.lps.length cR, .slice aT c.starts.length cT, .int .i64 c.fin, .int .i64 c.fuel, .int .i64 c.fan]) (m := 6)); (case hx | hy | hi | hm | h1 => rfl); (case hn => exact Nat.le_of_ble_eq_true rfl); (case hT => decide +kernel); clear S; intro wz S; simp only [List.set_cons_zero, List.set_cons_succ, setAll, List.setIfInBounds_toArray] at S) | ((with_reducible refine tot_done ?ht ?_); (case ht => kernel_rfl)) | ((with_reducible apply wps_text S); (case hm => kernel_rfl); (case hB => decide +kernel); clear S; intro wz S) | ((with_reducible apply wps_alloca (E := 33) S); (case hz => exact Tryz.zeroValue33); clear S; intro bz wz S) | ((with_reducible apply wps_loada (T := 26) (k := 6) S 0); (case hx | hi => rfl); (case hk => exact Nat.le_of_ble_eq_true rfl); (case hT => decide +kernel)) | ((with_reducible apply wps_loada (T := 33) (k := 6) S 0); (case hx | hi => rfl); (case hk => exact Nat.le_of_ble_eq_true rfl); (case hT => decide +kernel))
      (try simp only [Exit.inBlock, Exit.then]); refine bodyPost_ret (results2 rfl (res_tmp rfl) (S.resA 5 rfl rfl (by kernel_rfl))) rfl ?_
      exact Fin0.out _ Hm.out (S.pick [1] rfl)
    case pos =>
      have Hm : Hid (madeB c = true) := by show _ = _; unfold madeB; rw [Hf.out, decide_eq_true h0]; rfl
      have H0 := Lib.hid h0
      rw [h0] at HR
      clear h0
      go_wp2_with first | go_skip | ((with_reducible refine wpList_skip ?hw ?_); (case hw => with_unfolding_all rfl); simp only [Act.put, List.setIfInBounds_toArray, List.set_cons_succ, List.set_cons_zero]) | ((with_reducible apply wps_alloca (E := 33) S); (case hz => exact Tryz.zeroValue33); clear S; intro b4 wz S) | ((with_reducible apply wps_storea (T := 33) S 0 (vs := [.slice aH gn cH, .slice aR c.lps.length cR, .slice aT c.starts.length cT, .int .i64 c.fin, .int .i64 c.fuel, .int .i64 c.fan]) (m := 6)); (case hx | hy | hi | hm | h1 => rfl); (case hn => exact Nat.le_of_ble_eq_true rfl); (case hT => decide +kernel); clear S; intro wz S; simp only [List.set_cons_zero, List.set_cons_succ, setAll, List.setIfInBounds_toArray] at S) | ((with_reducible apply wps_loada (T := 26) (k := 6) S 2); (case hx | hi => rfl); (case hk => exact Nat.le_of_ble_eq_true rfl); (case hT => decide +kernel)) | ((with_reducible apply wps_loada (T := 33) (k := 6) S 0); (case hx | hi => rfl); (case hk => exact Nat.le_of_ble_eq_true rfl); (case hT => decide +kernel)) | (go_at_call 31; refine Calls.mono (HF.out _ _ (S.get (i := 3) rfl).choose_spec) ?_; rintro e wz ⟨rfl, hE⟩; replace S := S.ext (Keep.of_below hE); clear hE) | (go_at_call 32; refine Calls.mono (HR.out _ _ (S.get (i := 1) rfl).choose_spec) ?_; rintro e wz ⟨rfl, hE⟩; replace S := S.ext (Keep.of_below hE); clear hE) | ((with_reducible refine tot_done ?ht ?_); (case ht => kernel_rfl)) | ((with_reducible apply wps_text S); (case hm => kernel_rfl); (case hB => decide +kernel); clear S; intro wz S) | ((with_reducible apply wps_alloca (E := 33) S); (case hz => exact Tryz.zeroValue33); clear S; intro bz wz S) | ((with_reducible apply wps_loada (T := 26) (k := 6) S 0); (case hx | hi => rfl); (case hk => exact Nat.le_of_ble_eq_true rfl); (case hT => decide +kernel)) | ((with_reducible apply wps_loada (T := 33) (k := 6) S 0); (case hx | hi => rfl); (case hk => exact Nat.le_of_ble_eq_true rfl); (case hT => decide +kernel))
      refine Calls.mono (HNw.out _ _ _ (S.get (i := 3) rfl).choose_spec (S.get (i := 4) rfl).choose_spec) ?_
      rintro e wz (⟨hne, rfl, hE⟩ | ⟨_, R, vs3, hs3, rfl, T⟩)
      · exact absurd H0.out hne
      replace S := (S.join T rfl).pick [1, 0, 2, 3, 4, 5, 6] rfl
      repeat (first | simp only at S | simp only [pick] at S | simp only [nth] at S | simp only [List.set_cons_succ] at S | simp only [List.set_cons_zero] at S | simp only [List.setIfInBounds_toArray] at S | simp only [setAll] at S | simp only [List.cons_append] at S | simp only [List.nil_append] at S | simp only [List.append_nil] at S)
      clear T
      go_wp2_with first | go_skip | ((with_reducible refine wpList_skip ?hw ?_); (case hw => with_unfolding_all rfl); simp only [Act.put, List.setIfInBounds_toArray, List.set_cons_succ, List.set_cons_zero]) | ((with_reducible apply wps_loada (T := 33) (k := 6) S 1); (case hx | hi => rfl); (case hk => exact Nat.le_of_ble_eq_true rfl); (case hT => decide +kernel)) | ((with_reducible apply wps_storea (T := 33) S 6 (vs := [.slice aH gn cH, .slice aR c.lps.length cR, .slice aT c.starts.length cT, .int .i64 c.fin, .int .i64 c.fuel, .int .i64 c.fan]) (m := 6)); (case hx | hy | hi | hm | h1 => rfl); (case hn => exact Nat.le_of_ble_eq_true rfl); (case hT => decide +kernel); clear S; intro wz S; simp only [List.set_cons_zero, List.set_cons_succ, setAll, List.setIfInBounds_toArray] at S) | ((with_reducible refine tot_done ?ht ?_); (case ht => kernel_rfl)) | ((with_reducible apply wps_text S); (case hm => kernel_rfl); (case hB => decide +kernel); clear S; intro wz S) | ((with_reducible apply wps_alloca (E := 33) S); (case hz => exact Tryz.zeroValue33); clear S; intro bz wz S) | ((with_reducible apply wps_loada (T := 26) (k := 6) S 0); (case hx | hi => rfl); (case hk => exact Nat.le_of_ble_eq_true rfl); (case hT => decide +kernel)) | ((with_reducible apply wps_loada (T := 33) (k := 6) S 0); (case hx | hi => rfl); (case hk => exact Nat.le_of_ble_eq_true rfl); (case hT => decide +kernel))
      (try simp only [Exit.inBlock, Exit.then]); refine bodyPost_ret (results2 rfl (res_tmp rfl) (S.resA 6 rfl rfl (by kernel_rfl))) rfl ?_
      exact ⟨_, [.slice aH gn cH, .slice aR c.lps.length cR, .slice aT c.starts.length cT, .int .i64 c.fin, .int .i64 c.fuel, .int .i64 c.fan], hs2, rfl, .inr ⟨Hm.out, R, vs3, hs3, rfl, S.pick [1, 2] rfl⟩⟩
end Go.Proofs.YtmpfbkfemlhekaaGreatDoor
/- Plain: what is sent in a batch; and a configuration that is shared. -/
namespace Go.Proofs.YtmpfbkfemlhekaaGreatDoor
open Go Go.RowKit Mem

section
variable {G : Nat → Prop} {w0 w : World} {L : List Asn} {vs hs : List Value} {c : Cfg}
theorem Mem.St.cfgShare (S : St G w0 w L) (i : Nat) (hi : L[i]? = some (CfgA false vs hs c)) : St G w0 w (L.set i (CfgA true vs hs c)) :=
  S.weak hi (fun e => by cases e) (fun F h => ⟨F, fun _ hb => hb, h⟩)
end
structure SentOk (n : Nat) (fin lp at_ : Int) (out : List Event) : Prop where
  each : ∀ (i : Nat) (x : Event), out[i]? = some x → x.key.src = lp ∧ x.key.sent = at_ ∧ x.key.no = i ∧ at_ < x.key.at_ ∧ x.key.at_ ≤ fin ∧ 0 ≤ x.dst ∧ x.dst < n
end Go.Proofs.YtmpfbkfemlhekaaGreatDoor

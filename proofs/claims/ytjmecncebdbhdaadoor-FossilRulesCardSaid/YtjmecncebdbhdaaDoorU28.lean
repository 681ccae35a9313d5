import Derived.Test.YtjmecncebdbhdaaDoorU27
import Derived.Test.YtjmecncebdbhdaaDoorU06
import Derived.Test.YtjmecncebdbhdaaDoorU24
/- The walks of the reference's Check of programs and of configurations. -/
namespace Go.Proofs.YtjmecncebdbhdaaDoor
open Go Go.RowKit Reg Mem

def RCodeRel (v : Value) (p : List Instr) (w : World) (i : Value) (wr : World) : Prop :=
  ∃ j : Nat, j ≤ p.length ∧ i = .int .i64 j ∧ Hid (∀ (q : Nat) y, q < j → p[q]? = some y → mayE y p.length = 0) ∧ St (fun _ => False) w wr [Sl true Instr.cells 5 v p]
set_option maxRecDepth 100000 in
set_option maxHeartbeats 4000000 in
theorem rcode_calls (v : Value) (p : List Instr) (w : World) (F : Nat → Prop) (h : (Sl true Instr.cells 5 v p).at_ w F) : Calls Tryd.prog 44 #[v] w fun r w' => r = .returned (.tuple #[.int .i64 (codeAt p), .int .i64 (codeE p)]) ∧ Below w.heap.size w w' := by
  have S : St (fun _ => False) w w [Sl true Instr.cells 5 v p] := (St.init _ w).share rfl rfl h
  obtain ⟨ad, cp, rfl, _⟩ := (S.sl 0 rfl).elim fun _ h => h.form
  clear h
  by_cases g1 : (64 : Int) < p.length
  · have HE : Hid (codeAt p = 0 ∧ codeE p = 11) := ⟨by unfold codeAt; rw [if_pos (by omega)], by unfold codeE; rw [if_pos (by omega)]⟩
    go_enter Tryd.func44, Tryd.ntmps44
    go_wp2_with first | ((with_reducible refine tot_done ?ht ?_); (case ht => kernel_rfl)) | ((with_reducible apply wps_loada (T := 138) (k := 5) S 0); (case hx | hi => rfl); (case hk => exact Nat.le_of_ble_eq_true rfl); (case hT => decide +kernel))
    go_ret2
    exact ⟨by simp [HE.out.1, HE.out.2], S.below⟩
  · have HE : Hid (codeAt p = whereE (p.map (mayE · p.length)) 0 ∧ codeE p = firstE (p.map (mayE · p.length))) := ⟨by unfold codeAt; rw [if_neg (by omega)], by unfold codeE; rw [if_neg (by omega)]⟩
    go_enter Tryd.func44, Tryd.ntmps44
    go_wp2_with first | ((with_reducible refine tot_done ?ht ?_); (case ht => kernel_rfl)) | ((with_reducible apply wps_loada (T := 138) (k := 5) S 0); (case hx | hi => rfl); (case hk => exact Nat.le_of_ble_eq_true rfl); (case hT => decide +kernel))
    go_loopw [4] (fun i wr => RCodeRel (.slice ad p.length cp) p w i wr) (fun i _ => p.length - (intOf i).toNat)
    case atStart => exact ⟨0, Nat.zero_le _, rfl, fun q y h => by omega, S⟩
    case round =>
      clear S
      obtain ⟨j, hj, rfl, Hz, S⟩ := hrel
      by_cases hlt : j < p.length
      · obtain ⟨x, hx⟩ : ∃ x, p[j]? = some x := ⟨_, List.getElem?_eq_getElem hlt⟩
        obtain ⟨R, o, rfl⟩ : ∃ R o, ad = some ⟨R, o, none⟩ := (S.sl 0 rfl).elim fun F h => h.head (by omega)
        have hlt2 : (j : Int) < p.length := by omega
        have hc := rmay_calls x p.length
        obtain ⟨m, hm⟩ : ∃ m, mayE x p.length = m := ⟨_, rfl⟩
        rw [hm] at hc
        have Hx := Lib.hid hx
        have Hm := Lib.hid hm
        have Hc := Lib.hid hc
        clear hx hm hc
        by_cases h0 : m = 0
        · subst h0
          go_wp2_with first | ((with_reducible apply wps_loada_el S 0 (hj := Hx.out) (q := 0) (vs := [.int .i64 x.op, .int .i64 x.a, .int .i64 x.b, .int .i64 x.c, .int .i64 x.d]) (m := 5)); (case hx | hi => rfl); (case hn => omega); (case hm | hv => rfl); (case hT => decide +kernel)) | (go_at_call 68; refine Calls.mono (Hc.out _) ?_; rintro e wz ⟨rfl, hE⟩; replace S := S.ext (Keep.of_below hE); clear hE) | ((with_reducible refine tot_done ?ht ?_); (case ht => kernel_rfl)) | ((with_reducible apply wps_loada (T := 138) (k := 5) S 0); (case hx | hi => rfl); (case hk => exact Nat.le_of_ble_eq_true rfl); (case hT => decide +kernel))
          go_roundw
          case rel =>
            refine ⟨j + 1, by omega, by go_num, fun q y hq hy => ?_, S⟩
            by_cases e : q = j
            · subst e; rw [Hx.out] at hy; cases hy; exact Hm.out
            · exact Hz.out q y (by omega) hy
          case measure => first | (simp [intOf]; done) | (simp [intOf]; omega)
        · have h1 : (m != 0) = true := by simpa using h0
          have H0 := Lib.hid h0
          clear h0
          go_wp2_with first | ((with_reducible apply wps_loada_el S 0 (hj := Hx.out) (q := 0) (vs := [.int .i64 x.op, .int .i64 x.a, .int .i64 x.b, .int .i64 x.c, .int .i64 x.d]) (m := 5)); (case hx | hi => rfl); (case hn => omega); (case hm | hv => rfl); (case hT => decide +kernel)) | (go_at_call 68; refine Calls.mono (Hc.out _) ?_; rintro e wz ⟨rfl, hE⟩; replace S := S.ext (Keep.of_below hE); clear hE) | ((with_reducible refine tot_done ?ht ?_); (case ht => kernel_rfl)) | ((with_reducible apply wps_loada (T := 138) (k := 5) S 0); (case hx | hi => rfl); (case hk => exact Nat.le_of_ble_eq_true rfl); (case hT => decide +kernel))
          go_ret2
          have hz : ∀ (q : Nat) y, q < j → (p.map (mayE · p.length))[q]? = some y → y = 0 := fun q y hq hy => by
            rw [List.getElem?_map] at hy
            cases hp : p[q]? with
            | none => rw [hp] at hy; cases hy
            | some z => rw [hp] at hy; simp at hy; subst hy; exact Hz.out q z hq hp
          have hx : (p.map (mayE · p.length))[j]? = some m := by rw [List.getElem?_map, Hx.out]; simp [Hm.out]
          refine ⟨?_, S.below⟩
          rw [HE.out.1, HE.out.2, whereE_at hz hx H0.out, firstE_at hz hx H0.out]
          simp
      · obtain rfl : j = p.length := by omega
        go_wp2_with first | ((with_reducible refine tot_done ?ht ?_); (case ht => kernel_rfl)) | ((with_reducible apply wps_loada (T := 138) (k := 5) S 0); (case hx | hi => rfl); (case hk => exact Nat.le_of_ble_eq_true rfl); (case hT => decide +kernel))
        go_ret2
        refine ⟨?_, S.below⟩
        have hz : ∀ (q : Nat) y, (p.map (mayE · p.length))[q]? = some y → y = 0 := fun q y hy => by
          rw [List.getElem?_map] at hy
          cases hp : p[q]? with
          | none => rw [hp] at hy; cases hy
          | some z => rw [hp] at hy; simp at hy; subst hy; exact Hz.out q z (List.getElem?_eq_some_iff.1 hp).1 hp
        rw [HE.out.1, HE.out.2, firstE_none hz, whereE_none (fun x hx => by obtain ⟨q, hq, rfl⟩ := List.mem_iff_getElem.1 hx; exact hz q _ (List.getElem?_eq_getElem hq))]
        simp
theorem cfg_sizes {c : Cfg} (h : ¬ sizesOk c) : cfgE c = 10 := by
  unfold cfgE; rw [show sizesE c = 10 from if_neg h]; rfl
theorem cfg_starts {c : Cfg} (h : sizesOk c) (h2 : 256 < c.starts.length) : cfgE c = 11 := by
  unfold cfgE; rw [show sizesE c = 0 from if_pos h, show startsE c = 11 from if_pos h2]; rfl
theorem cfg_prog {c : Cfg} (h : sizesOk c) (h2 : ¬ 256 < c.starts.length) {m : Int} (h3 : programsE c = m) (h4 : m ≠ 0) : cfgE c = m := by
  unfold cfgE; rw [show sizesE c = 0 from if_pos h, show startsE c = 0 from if_neg h2, h3]; simp [firstE, h4]
theorem cfg_ends {c : Cfg} (h : sizesOk c) (h2 : ¬ 256 < c.starts.length) (h3 : programsE c = 0) (h4 : ¬ ((∀ p ∈ c.lps, 0 ≤ p.program ∧ p.program < c.programs.length) ∧ (∀ s ∈ c.starts, 0 ≤ s.dst ∧ s.dst < c.lps.length))) : cfgE c = 14 := by
  unfold cfgE; rw [show sizesE c = 0 from if_pos h, show startsE c = 0 from if_neg h2, h3, show endsE c = 14 from if_neg h4]; rfl
theorem cfg_times {c : Cfg} (h : sizesOk c) (h2 : ¬ 256 < c.starts.length) (h3 : programsE c = 0) (h4 : (∀ p ∈ c.lps, 0 ≤ p.program ∧ p.program < c.programs.length) ∧ (∀ s ∈ c.starts, 0 ≤ s.dst ∧ s.dst < c.lps.length)) (h5 : ¬ ∀ s ∈ c.starts, 0 ≤ s.at_ ∧ s.at_ ≤ c.fin) : cfgE c = 18 := by
  unfold cfgE; rw [show sizesE c = 0 from if_pos h, show startsE c = 0 from if_neg h2, h3, show endsE c = 0 from if_pos h4, show timesE c = 18 from if_neg h5]; rfl
theorem cfg_fine {c : Cfg} (h : sizesOk c) (h2 : ¬ 256 < c.starts.length) (h3 : programsE c = 0) (h4 : (∀ p ∈ c.lps, 0 ≤ p.program ∧ p.program < c.programs.length) ∧ (∀ s ∈ c.starts, 0 ≤ s.dst ∧ s.dst < c.lps.length)) (h5 : ∀ s ∈ c.starts, 0 ≤ s.at_ ∧ s.at_ ≤ c.fin) : cfgE c = 0 := by
  unfold cfgE; rw [show sizesE c = 0 from if_pos h, show startsE c = 0 from if_neg h2, h3, show endsE c = 0 from if_pos h4, show timesE c = 0 from if_pos h5]; rfl
end Go.Proofs.YtjmecncebdbhdaaDoor

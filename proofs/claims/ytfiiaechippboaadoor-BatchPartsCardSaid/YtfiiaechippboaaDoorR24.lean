import Derived.Test.YtfiiaechippboaaDoorR23
import Derived.Test.YtfiiaechippboaaDoorR11
import Derived.Test.YtfiiaechippboaaDoorR21
import Derived.Test.YtfiiaechippboaaDoorR19
/- The walks of the reference's Check of programs and of configurations. -/
namespace Go.Proofs.YtfiiaechippboaaDoor
open Go Go.RowKit Reg Mem

def RCodeRel (v : Value) (p : List Instr) (w : World) (i : Value) (wr : World) : Prop :=
  ∃ j : Nat, j ≤ p.length ∧ i = .int .i64 j ∧ Hid (∀ (q : Nat) y, q < j → p[q]? = some y → mayE y p.length = 0) ∧ St (fun _ => False) w wr [Sl true Instr.cells 5 v p]
set_option maxRecDepth 100000 in
set_option maxHeartbeats 4000000 in
theorem rcode_calls (v : Value) (p : List Instr) (w : World) (F : Nat → Prop) (h : (Sl true Instr.cells 5 v p).at_ w F) : Calls Tryd.prog 42 #[v] w fun r w' => r = .returned (.tuple #[.int .i64 (codeAt p), .int .i64 (codeE p)]) ∧ Below w.heap.size w w' := by
  have S : St (fun _ => False) w w [Sl true Instr.cells 5 v p] := (St.init _ w).share rfl rfl h
  obtain ⟨ad, cp, rfl, _⟩ := (S.sl 0 rfl).elim fun _ h => h.form
  clear h
  by_cases g1 : (64 : Int) < p.length
  · have HE : Hid (codeAt p = 0 ∧ codeE p = 11) := ⟨by unfold codeAt; rw [if_pos (by omega)], by unfold codeE; rw [if_pos (by omega)]⟩
    go_enter Tryd.func42, Tryd.ntmps42
    go_wp2_with first
      | ((with_reducible refine tot_done ?ht ?_); (case ht => kernel_rfl))
      | ((with_reducible apply wps_loada (T := 123) (k := 5) S 0); (case hx => rfl); (case hi => rfl); (case hT => decide +kernel); (case hk => exact Nat.le_of_ble_eq_true rfl))
    go_ret2
    exact ⟨by simp [HE.out.1, HE.out.2], S.below⟩
  · have HE : Hid (codeAt p = whereE (p.map (mayE · p.length)) 0 ∧ codeE p = firstE (p.map (mayE · p.length))) := ⟨by unfold codeAt; rw [if_neg (by omega)], by unfold codeE; rw [if_neg (by omega)]⟩
    go_enter Tryd.func42, Tryd.ntmps42
    go_wp2_with first
      | ((with_reducible refine tot_done ?ht ?_); (case ht => kernel_rfl))
      | ((with_reducible apply wps_loada (T := 123) (k := 5) S 0); (case hx => rfl); (case hi => rfl); (case hT => decide +kernel); (case hk => exact Nat.le_of_ble_eq_true rfl))
    go_loopw [4] (fun i wr => RCodeRel (.slice ad p.length cp) p w i wr) (fun i _ => p.length - (intOf i).toNat)
    case atStart => exact ⟨0, Nat.zero_le _, rfl, fun q y h => by omega, S⟩
    case round =>
      clear S
      obtain ⟨j, hj, rfl, Hz, S⟩ := hrel
      by_cases hlt : j < p.length
      · obtain ⟨x, hx⟩ : ∃ x, p[j]? = some x := ⟨_, List.getElem?_eq_getElem hlt⟩
        obtain ⟨R, o, rfl⟩ : ∃ R o, ad = some ⟨R, o, none⟩ := (S.sl 0 rfl).elim fun F h => h.head (by omega)
        have hlt2 : (j : Int) < p.length := by omega
        have hc := rmay_calls x p.length
        obtain ⟨m, hm⟩ : ∃ m, mayE x p.length = m := ⟨_, rfl⟩
        rw [hm] at hc
        have Hx := Lib.hid hx
        have Hm := Lib.hid hm
        have Hc := Lib.hid hc
        clear hx hm hc
        by_cases h0 : m = 0
        · subst h0
          go_wp2_with first
            | ((with_reducible apply wps_loada_el S 0 (hj := Hx.out) (q := 0) (vs := [.int .i64 x.op, .int .i64 x.a, .int .i64 x.b, .int .i64 x.c, .int .i64 x.d]) (m := 5)); (case hx => rfl); (case hT => decide +kernel); (case hi => rfl); (case hn => omega); (case hm => rfl); (case hv => rfl))
            | (go_at_call 59; refine Calls.mono (Hc.out _) ?_; rintro e wz ⟨rfl, hE⟩; replace S := S.ext (Keep.of_below hE); clear hE)
            | ((with_reducible refine tot_done ?ht ?_); (case ht => kernel_rfl))
            | ((with_reducible apply wps_loada (T := 123) (k := 5) S 0); (case hx => rfl); (case hi => rfl); (case hT => decide +kernel); (case hk => exact Nat.le_of_ble_eq_true rfl))
          go_roundw
          case rel =>
            refine ⟨j + 1, by omega, by go_num, fun q y hq hy => ?_, S⟩
            by_cases e : q = j
            · subst e; rw [Hx.out] at hy; cases hy; exact Hm.out
            · exact Hz.out q y (by omega) hy
          case measure => first | (simp [intOf]; done) | (simp [intOf]; omega)
        · have h1 : (m != 0) = true := by simpa using h0
          have H0 := Lib.hid h0
          clear h0
          go_wp2_with first
            | ((with_reducible apply wps_loada_el S 0 (hj := Hx.out) (q := 0) (vs := [.int .i64 x.op, .int .i64 x.a, .int .i64 x.b, .int .i64 x.c, .int .i64 x.d]) (m := 5)); (case hx => rfl); (case hT => decide +kernel); (case hi => rfl); (case hn => omega); (case hm => rfl); (case hv => rfl))
            | (go_at_call 59; refine Calls.mono (Hc.out _) ?_; rintro e wz ⟨rfl, hE⟩; replace S := S.ext (Keep.of_below hE); clear hE)
            | ((with_reducible refine tot_done ?ht ?_); (case ht => kernel_rfl))
            | ((with_reducible apply wps_loada (T := 123) (k := 5) S 0); (case hx => rfl); (case hi => rfl); (case hT => decide +kernel); (case hk => exact Nat.le_of_ble_eq_true rfl))
          go_ret2
          have hz : ∀ (q : Nat) y, q < j → (p.map (mayE · p.length))[q]? = some y → y = 0 := fun q y hq hy => by
            rw [List.getElem?_map] at hy
            cases hp : p[q]? with
            | none => rw [hp] at hy; cases hy
            | some z => rw [hp] at hy; simp at hy; subst hy; exact Hz.out q z hq hp
          have hx : (p.map (mayE · p.length))[j]? = some m := by rw [List.getElem?_map, Hx.out]; simp [Hm.out]
          refine ⟨?_, S.below⟩
          rw [HE.out.1, HE.out.2, whereE_at hz hx H0.out, firstE_at hz hx H0.out]
          simp
      · obtain rfl : j = p.length := by omega
        go_wp2_with first
          | ((with_reducible refine tot_done ?ht ?_); (case ht => kernel_rfl))
          | ((with_reducible apply wps_loada (T := 123) (k := 5) S 0); (case hx => rfl); (case hi => rfl); (case hT => decide +kernel); (case hk => exact Nat.le_of_ble_eq_true rfl))
        go_ret2
        refine ⟨?_, S.below⟩
        have hz : ∀ (q : Nat) y, (p.map (mayE · p.length))[q]? = some y → y = 0 := fun q y hy => by
          rw [List.getElem?_map] at hy
          cases hp : p[q]? with
          | none => rw [hp] at hy; cases hy
          | some z => rw [hp] at hy; simp at hy; subst hy; exact Hz.out q z (List.getElem?_eq_some_iff.1 hp).1 hp
        rw [HE.out.1, HE.out.2, firstE_none hz, whereE_none (fun x hx => by obtain ⟨q, hq, rfl⟩ := List.mem_iff_getElem.1 hx; exact hz q _ (List.getElem?_eq_getElem hq))]
        simp
theorem cfg_sizes {c : Cfg} (h : ¬ sizesOk c) : cfgE c = 10 := by
  unfold cfgE; rw [show sizesE c = 10 from if_neg h]; rfl
theorem cfg_starts {c : Cfg} (h : sizesOk c) (h2 : 256 < c.starts.length) : cfgE c = 11 := by
  unfold cfgE; rw [show sizesE c = 0 from if_pos h, show startsE c = 11 from if_pos h2]; rfl
theorem cfg_prog {c : Cfg} (h : sizesOk c) (h2 : ¬ 256 < c.starts.length) {m : Int} (h3 : programsE c = m) (h4 : m ≠ 0) : cfgE c = m := by
  unfold cfgE; rw [show sizesE c = 0 from if_pos h, show startsE c = 0 from if_neg h2, h3]; simp [firstE, h4]
theorem cfg_ends {c : Cfg} (h : sizesOk c) (h2 : ¬ 256 < c.starts.length) (h3 : programsE c = 0) (h4 : ¬ ((∀ p ∈ c.lps, 0 ≤ p.program ∧ p.program < c.programs.length) ∧ (∀ s ∈ c.starts, 0 ≤ s.dst ∧ s.dst < c.lps.length))) : cfgE c = 14 := by
  unfold cfgE; rw [show sizesE c = 0 from if_pos h, show startsE c = 0 from if_neg h2, h3, show endsE c = 14 from if_neg h4]; rfl
theorem cfg_times {c : Cfg} (h : sizesOk c) (h2 : ¬ 256 < c.starts.length) (h3 : programsE c = 0) (h4 : (∀ p ∈ c.lps, 0 ≤ p.program ∧ p.program < c.programs.length) ∧ (∀ s ∈ c.starts, 0 ≤ s.dst ∧ s.dst < c.lps.length)) (h5 : ¬ ∀ s ∈ c.starts, 0 ≤ s.at_ ∧ s.at_ ≤ c.fin) : cfgE c = 18 := by
  unfold cfgE; rw [show sizesE c = 0 from if_pos h, show startsE c = 0 from if_neg h2, h3, show endsE c = 0 from if_pos h4, show timesE c = 18 from if_neg h5]; rfl
theorem cfg_fine {c : Cfg} (h : sizesOk c) (h2 : ¬ 256 < c.starts.length) (h3 : programsE c = 0) (h4 : (∀ p ∈ c.lps, 0 ≤ p.program ∧ p.program < c.programs.length) ∧ (∀ s ∈ c.starts, 0 ≤ s.dst ∧ s.dst < c.lps.length)) (h5 : ∀ s ∈ c.starts, 0 ≤ s.at_ ∧ s.at_ ≤ c.fin) : cfgE c = 0 := by
  unfold cfgE; rw [show sizesE c = 0 from if_pos h, show startsE c = 0 from if_neg h2, h3, show endsE c = 0 from if_pos h4, show timesE c = 0 from if_pos h5]; rfl
end Go.Proofs.YtfiiaechippboaaDoor
/- The walks of the law's awake and BatchNil. -/
namespace Go.Proofs.YtfiiaechippboaaDoor
open Go Go.RowKit Reg Mem

def wk8 : Cfg := ⟨[[⟨1, 4, 1, 0, 0⟩, ⟨1, 5, 2, 0, 0⟩, ⟨12, 6, 0, 0, 0⟩, ⟨14, 4, 5, 6, 0⟩]], [⟨0, ⟨0, 0, 0, 0⟩⟩, ⟨0, ⟨0, 0, 0, 0⟩⟩], [], 9, 9, 1⟩
def wk8e : Event := ⟨⟨5, -1, -1, 0⟩, 0, 0, 9⟩
def wk8x : Event := ⟨⟨7, 0, 5, 0⟩, 1, 0, 9⟩
theorem wk8_ok : cfgE wk8 = 0 := by decide +kernel
theorem wk8_wrong : wrongE wk8.lps.length 0 [wk8e] = 0 := by decide +kernel
theorem wk8_run : (batchC wk8 0 ⟨0, 0, 0, 0⟩ [wk8e]).2 = [wk8x] := by decide +kernel
theorem wk8_mid : Mid wk8 := ⟨by decide, by decide, by decide⟩
theorem wk8_mid2 : ∀ p ∈ wk8.programs, p.length ≤ 65536 := by decide
set_option maxRecDepth 100000 in
set_option maxHeartbeats 4000000 in
theorem awake8_calls (w : World) (F : Nat → Prop) (ht : Tab.at_ w F) : Calls Tryd.prog 11 #[] w fun r w' => r = .returned (.bool true) ∧ Below w.heap.size w w' := by
  have S : St (fun _ => False) w w [Tab] := (St.init _ w).share rfl rfl ht
  clear ht
  replace S := S.nil 96 Start.cells 4
  go_enter Tryd.func11, Tryd.ntmps11
  go_wp2_with first
    | go_skip
    | ((with_reducible refine wpList_skip ?hw ?_); (case hw => with_unfolding_all rfl); simp only [Act.put, List.setIfInBounds_toArray, List.set_cons_succ, List.set_cons_zero])
    | ((with_reducible apply wps_buildSlice (T := 71) (E := 70) (cs := #[.int .i64 1, .int .i64 4, .int .i64 1, .int .i64 0, .int .i64 0, .int .i64 1, .int .i64 5, .int .i64 2, .int .i64 0, .int .i64 0, .int .i64 12, .int .i64 6, .int .i64 0, .int .i64 0, .int .i64 0, .int .i64 14, .int .i64 4, .int .i64 5, .int .i64 6, .int .i64 0]) S); (case hr => intro w; kernel_rfl); clear S; intro bi wz S)
    | ((with_reducible apply wps_buildSlice (T := 22) (E := 71) (cs := #[.slice (some ⟨bi, 0, none⟩) 4 4]) S); (case hr => intro w; kernel_rfl); clear S; intro bh wz S)
    | ((with_reducible apply wps_buildSlice (T := 23) (E := 73) (cs := #[.int .i64 0, .int .i64 0, .int .i64 0, .int .i64 0, .int .i64 0, .int .i64 0, .int .i64 0, .int .i64 0, .int .i64 0, .int .i64 0]) S); (case hr => intro w; kernel_rfl); clear S; intro bp wz S)
    | ((with_reducible refine tot_done ?ht ?_); (case ht => kernel_rfl))
    | ((with_reducible apply wps_alloca (E := 28) S); (case hz => exact Tryd.zeroValue28); clear S; intro bz wz S)
  have hcfg : (CfgA true [.slice (some ⟨bh, 0, none⟩) 1 1, .slice (some ⟨bp, 0, none⟩) 2 2, .slice none 0 0, .int .i64 9, .int .i64 9, .int .i64 1] [.slice (some ⟨bi, 0, none⟩) 4 4] wk8).at_ wz (fun b => b < wz.heap.size) :=
    cfg_any (c := wk8) (blk_sl (n := 1) [.slice (some ⟨bi, 0, none⟩) 4 4] vcells (S.get (i := 1) rfl).choose_spec rfl rfl) (blk_sl (n := 2) wk8.lps plcells (S.get (i := 0) rfl).choose_spec rfl rfl) (own_sl (sh := true) stcells (S.get (i := 3) rfl).choose_spec)
      (sls_one (blk_sl (n := 4) wk8.programs[0] incells (S.get (i := 2) rfl).choose_spec rfl rfl))
  refine Calls.mono (new_calls _ _ wk8 _ _ _ hcfg (S.get (i := 4) rfl).choose_spec wk8_mid wk8_mid2) ?_
  clear hcfg
  rintro e wz (⟨h, _⟩ | ⟨_, R, vs, hs, rfl, T⟩)
  · exact absurd wk8_ok h
  replace S := ((S.join T rfl).modShare 0 rfl).pick [0, 5] rfl
  repeat (first | simp only at S | simp only [pick] at S | simp only [nth] at S | simp only [List.set_cons_succ] at S | simp only [List.set_cons_zero] at S | simp only [List.setIfInBounds_toArray] at S | simp only [setAll] at S | simp only [List.cons_append] at S | simp only [List.nil_append] at S)
  clear T
  go_wp2_with first
    | go_skip
    | ((with_reducible refine wpList_skip ?hw ?_); (case hw => with_unfolding_all rfl); simp only [Act.put, List.setIfInBounds_toArray, List.set_cons_succ, List.set_cons_zero])
    | ((with_reducible apply wps_buildSlice (T := 29) (E := 54) (cs := #[.int .i64 5, .int .i64 (-1), .int .i64 (-1), .int .i64 0, .int .i64 0, .int .i64 0, .int .i64 9]) S); (case hr => intro w; kernel_rfl); clear S; intro be wz S)
    | ((with_reducible refine tot_done ?ht ?_); (case ht => kernel_rfl))
    | ((with_reducible apply wps_alloca (E := 28) S); (case hz => exact Tryd.zeroValue28); clear S; intro bz wz S)
  refine Calls.mono (brun_calls R vs hs wk8 0 ⟨0, 0, 0, 0⟩ _ [wk8e] _ _ _ _ (S.get (i := 1) rfl).choose_spec (blk_sl (n := 1) [wk8e] ecells (S.get (i := 0) rfl).choose_spec rfl rfl) (S.get (i := 2) rfl).choose_spec (by decide) wk8_ok (fun _ => by decide)) ?_
  rintro e wz (⟨h, _⟩ | ⟨_, v, rfl, T⟩)
  · exact absurd wk8_wrong h
  rw [wk8_run] at T
  replace S := (S.join T rfl).freeze true 0 ecells rfl
  simp only [List.cons_append, List.nil_append, List.set_cons_zero] at S
  clear T
  go_wp2_with first
    | go_skip
    | ((with_reducible refine wpList_skip ?hw ?_); (case hw => with_unfolding_all rfl); simp only [Act.put, List.setIfInBounds_toArray, List.set_cons_succ, List.set_cons_zero])
    | ((with_reducible apply wps_buildSlice (T := 29) (E := 54) (cs := #[.int .i64 7, .int .i64 0, .int .i64 5, .int .i64 0, .int .i64 1, .int .i64 0, .int .i64 9]) S); (case hr => intro w; kernel_rfl); clear S; intro be2 wz S)
    | ((with_reducible apply wps_alloca (E := 28) S); (case hz => exact Tryd.zeroValue28); clear S; intro bs wz S)
    | ((with_reducible apply wps_storea (T := 28) S 0 (vs := [_, _, _, _]) (m := 4)); (case hx => rfl); (case hy => rfl); (case hi => rfl); (case hT => decide +kernel); (case hm => rfl); (case h1 => rfl); (case hn => exact Nat.le_of_ble_eq_true rfl); clear S; intro wz S; simp only [List.set_cons_zero, setAll, List.setIfInBounds_toArray] at S)
    | (go_at_call 16; refine Calls.mono (evseq_calls _ _ [wk8x] [wk8x] _ _ _ (S.get (i := 2) rfl).choose_spec (blk_sl (n := 1) [wk8x] ecells (S.get (i := 0) rfl).choose_spec rfl rfl) (by decide) (by decide)) ?_; rintro e wz ⟨rfl, hE⟩; replace S := S.ext (Keep.of_below hE); clear hE)
    | ((with_reducible refine tot_done ?ht ?_); (case ht => kernel_rfl))
    | ((with_reducible apply wps_alloca (E := 28) S); (case hz => exact Tryd.zeroValue28); clear S; intro bz wz S)
  go_ret
  exact ⟨by simp, S.below⟩
end Go.Proofs.YtfiiaechippboaaDoor

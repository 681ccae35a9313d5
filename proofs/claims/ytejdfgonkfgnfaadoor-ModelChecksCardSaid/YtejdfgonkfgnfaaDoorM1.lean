import Derived.Test.YtejdfgonkfgnfaaDoorC5
/- The walks of the law's awake and ModelNil. -/
namespace Go.Proofs.YtejdfgonkfgnfaaDoor
open Go Go.RowKit Reg Mem

def wkc : Cfg := ⟨[[⟨15, 0, 0, 0, 0⟩]], [⟨0, ⟨0, 0, 0, 0⟩⟩], [⟨0, 5, 1, 2⟩, ⟨0, 3, 0, 0⟩], 9, 1, 0⟩
theorem wkc_ok : cfgE wkc = 0 := by decide +kernel
def wke0 : Event := ⟨⟨3, -1, -1, 1⟩, 0, 0, 0⟩
def wke1 : Event := ⟨⟨5, -1, -1, 0⟩, 0, 1, 2⟩
theorem wkc_events : sortE (startsFrom 0 wkc.starts) = [wke0, wke1] := by decide +kernel
theorem wkc_mid : Mid wkc := ⟨by decide, by decide, by decide⟩
theorem wkc_mid2 : ∀ p ∈ wkc.programs, p.length ≤ 65536 := by decide
theorem cfg_any {vP vL vS : Value} {hs : List Value} {c : Cfg} {w : World} {F1 F2 F3 F4 : Nat → Prop} (h1 : (Sl true vcell 1 vP hs).at_ w F1) (h2 : (Sl true Place.cells 5 vL c.lps).at_ w F2) (h3 : (Sl true Start.cells 4 vS c.starts).at_ w F3) (h4 : (Sls true Instr.cells 5 hs c.programs).at_ w F4) :
    (CfgA true [vP, vL, vS, .int .i64 c.fin, .int .i64 c.fuel, .int .i64 c.fan] hs c).at_ w (fun b => b < w.heap.size) :=
  ⟨⟨⟨vP, vL, vS, rfl, h1.1.mono h1.2, h2.1.mono h2.2, h3.1.mono h3.2⟩, h4.1.mono h4.2⟩, fun _ h => h⟩
theorem sls_one {α : Type} {enc : α → List Value} {k : Nat} {v : Value} {xs : List α} {w : World} {F : Nat → Prop} (h : (Sl true enc k v xs).at_ w F) : (Sls true enc k [v] [xs]).at_ w F :=
  ⟨⟨rfl, fun i u ys hu hy => by
    cases i with
    | zero => simp at hu hy; subst hu; subst hy; exact h.1
    | succ i => simp at hu⟩, h.2⟩
set_option maxRecDepth 100000 in
set_option maxHeartbeats 4000000 in
theorem awake_calls (w : World) (F : Nat → Prop) (ht : Tab.at_ w F) : Calls Tryd.prog 9 #[] w fun r w' => r = .returned (.bool true) ∧ Below w.heap.size w w' := by
  have S : St (fun _ => False) w w [Tab] := (St.init _ w).share rfl rfl ht
  clear ht
  go_enter Tryd.func9, Tryd.ntmps9
  go_wp2_with first
    | go_skip
    | ((with_reducible refine wpList_skip ?hw ?_); (case hw => with_unfolding_all rfl); simp only [Act.put, List.setIfInBounds_toArray, List.set_cons_succ, List.set_cons_zero])
    | ((with_reducible apply wps_buildSlice (T := 44) (E := 52) (cs := #[.int .i64 15, .int .i64 0, .int .i64 0, .int .i64 0, .int .i64 0]) S); (case hr => intro w; kernel_rfl); clear S; intro bi wz S)
    | ((with_reducible apply wps_buildSlice (T := 22) (E := 44) (cs := #[.slice (some ⟨bi, 0, none⟩) 1 1]) S); (case hr => intro w; kernel_rfl); clear S; intro bh wz S)
    | ((with_reducible apply wps_buildSlice (T := 23) (E := 54) (cs := #[.int .i64 0, .int .i64 0, .int .i64 0, .int .i64 0, .int .i64 0]) S); (case hr => intro w; kernel_rfl); clear S; intro bp wz S)
    | ((with_reducible apply wps_buildSlice (T := 24) (E := 28) (cs := #[.int .i64 0, .int .i64 5, .int .i64 1, .int .i64 2, .int .i64 0, .int .i64 3, .int .i64 0, .int .i64 0]) S); (case hr => intro w; kernel_rfl); clear S; intro bs wz S)
    | ((with_reducible refine tot_done ?ht ?_); (case ht => kernel_rfl))
    | ((with_reducible apply wps_load S 0); (case hx => rfl); (case hi => rfl); (case hT => decide +kernel); (case hu => rfl))
  have hcfg : (CfgA true [.slice (some ⟨bh, 0, none⟩) 1 1, .slice (some ⟨bp, 0, none⟩) 1 1, .slice (some ⟨bs, 0, none⟩) 2 2, .int .i64 9, .int .i64 1, .int .i64 0] [.slice (some ⟨bi, 0, none⟩) 1 1] wkc).at_ wz (fun b => b < wz.heap.size) :=
    cfg_any (c := wkc) (blk_sl (n := 1) [.slice (some ⟨bi, 0, none⟩) 1 1] vcells (S.get (i := 2) rfl).choose_spec rfl rfl) (blk_sl (n := 1) wkc.lps plcells (S.get (i := 1) rfl).choose_spec rfl rfl) (blk_sl (n := 2) wkc.starts stcells (S.get (i := 0) rfl).choose_spec rfl rfl)
      (sls_one (blk_sl (n := 1) [⟨15, 0, 0, 0, 0⟩] incells (S.get (i := 3) rfl).choose_spec rfl rfl))
  refine Calls.mono (new_calls _ _ wkc _ _ _ hcfg (S.get (i := 4) rfl).choose_spec wkc_mid wkc_mid2) ?_
  clear hcfg
  rintro e wz (⟨h, _⟩ | ⟨_, R, vs, hs, rfl, T⟩)
  · exact absurd wkc_ok h
  replace S := ((S.join T rfl).modShare 0 rfl).pick [0] rfl
  simp only [List.cons_append, List.nil_append, List.set_cons_zero, pick, nth] at S
  clear T
  go_wp2_with first
    | go_skip
    | ((with_reducible refine wpList_skip ?hw ?_); (case hw => with_unfolding_all rfl); simp only [Act.put, List.setIfInBounds_toArray, List.set_cons_succ, List.set_cons_zero])
    | ((with_reducible refine tot_done ?ht ?_); (case ht => kernel_rfl))
    | ((with_reducible apply wps_load S 0); (case hx => rfl); (case hi => rfl); (case hT => decide +kernel); (case hu => rfl))
  refine Calls.mono (events_calls R vs hs wkc _ _ (S.get (i := 0) rfl).choose_spec (by decide)) ?_
  rintro e wz ⟨ad, c, rfl, T⟩
  rw [wkc_events] at T
  replace S := S.join T rfl
  simp only [List.cons_append, List.nil_append] at S
  clear T
  replace S := S.freeze true 0 ecells rfl
  simp only [List.set_cons_zero] at S
  have hl : (startsFrom 0 wkc.starts).length = 2 := rfl
  rw [hl] at S ⊢
  obtain ⟨R0, o, rfl⟩ : ∃ R o, ad = some ⟨R, o, none⟩ := (S.sl 0 rfl).elim fun F h => h.head (by decide)
  have HA : Hid ([wke0, wke1][0]? = some wke0) := rfl
  have HB : Hid ([wke0, wke1][1]? = some wke1) := rfl
  go_wp2_with first
    | go_skip
    | ((with_reducible refine wpList_skip ?hw ?_); (case hw => with_unfolding_all rfl); simp only [Act.put, List.setIfInBounds_toArray, List.set_cons_succ, List.set_cons_zero])
    | ((with_reducible apply wps_loada_el S 0 (hj := HA.out) (q := 0) (vs := [.int .i64 wke0.key.at_, .int .i64 wke0.key.src, .int .i64 wke0.key.sent, .int .i64 wke0.key.no, .int .i64 wke0.dst, .int .i64 wke0.kind, .int .i64 wke0.data]) (m := 7)); (case hx => rfl); (case hT => decide +kernel); (case hi => rfl); (case hn => omega); (case hm => rfl); (case hv => rfl))
    | ((with_reducible apply wps_loada_el S 0 (hj := HA.out) (q := 0) (vs := [.int .i64 wke0.key.at_, .int .i64 wke0.key.src, .int .i64 wke0.key.sent, .int .i64 wke0.key.no]) (m := 4)); (case hx => rfl); (case hT => decide +kernel); (case hi => rfl); (case hn => omega); (case hm => rfl); (case hv => rfl))
    | ((with_reducible apply wps_load_el S 0 (hj := HA.out) (q := 0) (u := .int .i64 wke0.key.at_)); (case hx => rfl); (case hi => rfl); (case hn => omega); (case hT => decide +kernel); (case hu => rfl))
    | ((with_reducible apply wps_load_el S 0 (hj := HA.out) (q := 1) (u := .int .i64 wke0.key.src)); (case hx => rfl); (case hi => rfl); (case hn => omega); (case hT => decide +kernel); (case hu => rfl))
    | ((with_reducible apply wps_load_el S 0 (hj := HA.out) (q := 2) (u := .int .i64 wke0.key.sent)); (case hx => rfl); (case hi => rfl); (case hn => omega); (case hT => decide +kernel); (case hu => rfl))
    | ((with_reducible apply wps_load_el S 0 (hj := HA.out) (q := 3) (u := .int .i64 wke0.key.no)); (case hx => rfl); (case hi => rfl); (case hn => omega); (case hT => decide +kernel); (case hu => rfl))
    | ((with_reducible apply wps_load_el S 0 (hj := HA.out) (q := 4) (u := .int .i64 wke0.dst)); (case hx => rfl); (case hi => rfl); (case hn => omega); (case hT => decide +kernel); (case hu => rfl))
    | ((with_reducible apply wps_load_el S 0 (hj := HA.out) (q := 5) (u := .int .i64 wke0.kind)); (case hx => rfl); (case hi => rfl); (case hn => omega); (case hT => decide +kernel); (case hu => rfl))
    | ((with_reducible apply wps_load_el S 0 (hj := HA.out) (q := 6) (u := .int .i64 wke0.data)); (case hx => rfl); (case hi => rfl); (case hn => omega); (case hT => decide +kernel); (case hu => rfl))
    | ((with_reducible apply wps_loada_el S 0 (hj := HB.out) (q := 0) (vs := [.int .i64 wke1.key.at_, .int .i64 wke1.key.src, .int .i64 wke1.key.sent, .int .i64 wke1.key.no, .int .i64 wke1.dst, .int .i64 wke1.kind, .int .i64 wke1.data]) (m := 7)); (case hx => rfl); (case hT => decide +kernel); (case hi => rfl); (case hn => omega); (case hm => rfl); (case hv => rfl))
    | ((with_reducible apply wps_loada_el S 0 (hj := HB.out) (q := 0) (vs := [.int .i64 wke1.key.at_, .int .i64 wke1.key.src, .int .i64 wke1.key.sent, .int .i64 wke1.key.no]) (m := 4)); (case hx => rfl); (case hT => decide +kernel); (case hi => rfl); (case hn => omega); (case hm => rfl); (case hv => rfl))
    | ((with_reducible apply wps_load_el S 0 (hj := HB.out) (q := 0) (u := .int .i64 wke1.key.at_)); (case hx => rfl); (case hi => rfl); (case hn => omega); (case hT => decide +kernel); (case hu => rfl))
    | ((with_reducible apply wps_load_el S 0 (hj := HB.out) (q := 1) (u := .int .i64 wke1.key.src)); (case hx => rfl); (case hi => rfl); (case hn => omega); (case hT => decide +kernel); (case hu => rfl))
    | ((with_reducible apply wps_load_el S 0 (hj := HB.out) (q := 2) (u := .int .i64 wke1.key.sent)); (case hx => rfl); (case hi => rfl); (case hn => omega); (case hT => decide +kernel); (case hu => rfl))
    | ((with_reducible apply wps_load_el S 0 (hj := HB.out) (q := 3) (u := .int .i64 wke1.key.no)); (case hx => rfl); (case hi => rfl); (case hn => omega); (case hT => decide +kernel); (case hu => rfl))
    | ((with_reducible apply wps_load_el S 0 (hj := HB.out) (q := 4) (u := .int .i64 wke1.dst)); (case hx => rfl); (case hi => rfl); (case hn => omega); (case hT => decide +kernel); (case hu => rfl))
    | ((with_reducible apply wps_load_el S 0 (hj := HB.out) (q := 5) (u := .int .i64 wke1.kind)); (case hx => rfl); (case hi => rfl); (case hn => omega); (case hT => decide +kernel); (case hu => rfl))
    | ((with_reducible apply wps_load_el S 0 (hj := HB.out) (q := 6) (u := .int .i64 wke1.data)); (case hx => rfl); (case hi => rfl); (case hn => omega); (case hT => decide +kernel); (case hu => rfl))
    | ((with_reducible refine tot_done ?ht ?_); (case ht => kernel_rfl))
    | ((with_reducible apply wps_load S 0); (case hx => rfl); (case hi => rfl); (case hT => decide +kernel); (case hu => rfl))
  go_ret
  exact ⟨by simp [wke1], S.below⟩
set_option maxRecDepth 100000 in
set_option maxHeartbeats 4000000 in
theorem modelNil_calls (lp : Int) (w : World) (F : Nat → Prop) (ht : Tab.at_ w F) : Calls Tryd.prog 7 #[.int .i64 lp] w fun r w' => r = .returned (.bool true) ∧ Below w.heap.size w w' := by
  have S : St (fun _ => False) w w [Tab] := (St.init _ w).share rfl rfl ht
  clear ht
  go_enter Tryd.func7, Tryd.ntmps7
  go_wp2_with first
    | go_skip
    | ((with_reducible refine wpList_skip ?hw ?_); (case hw => with_unfolding_all rfl); simp only [Act.put, List.setIfInBounds_toArray, List.set_cons_succ, List.set_cons_zero])
    | (go_at_call 14; refine Calls.mono (lps_nil _) ?_; rintro e wz ⟨rfl, hE⟩; replace S := S.ext (Keep.of_below hE); clear hE)
    | (go_at_call 15; refine Calls.mono (first_nil _ _) ?_; rintro e wz ⟨rfl, hE⟩; replace S := S.ext (Keep.of_below hE); clear hE)
    | ((with_reducible apply wpList_eql_agg (t := 46) (ks := [.int .i64, .int .i64, .int .i64, .int .i64]) (b := true)); (case hx => rfl); (case hy => rfl); (case hl => kernel_rfl); (case ha => kernel_rfl); (case hg => kernel_rfl); (case hfx => rfl); (case hfy => rfl); (case hb => exact rfl))
    | (go_at_call 17; refine Calls.mono (program_nil _ _) ?_; rintro e wz ⟨rfl, hE⟩; replace S := S.ext (Keep.of_below hE); clear hE)
    | (go_at_call 12; refine Calls.mono (events_nil _) ?_; rintro e wz ⟨rfl, hE⟩; replace S := S.ext (Keep.of_below hE); clear hE)
    | (go_at_call 13; refine Calls.mono (end_nil _) ?_; rintro e wz ⟨rfl, hE⟩; replace S := S.ext (Keep.of_below hE); clear hE)
    | (go_at_call 25; refine Calls.mono (fuel_nil _) ?_; rintro e wz ⟨rfl, hE⟩; replace S := S.ext (Keep.of_below hE); clear hE)
    | (go_at_call 26; refine Calls.mono (fan_nil _) ?_; rintro e wz ⟨rfl, hE⟩; replace S := S.ext (Keep.of_below hE); clear hE)
    | (go_at_call 9; refine Calls.mono (awake_calls _ _ (S.get (i := 0) rfl).choose_spec) ?_; rintro e wz ⟨rfl, hE⟩; replace S := S.ext (Keep.of_below hE); clear hE)
    | ((with_reducible refine tot_done ?ht ?_); (case ht => kernel_rfl))
  go_ret
  exact ⟨by simp, S.below⟩
end Go.Proofs.YtejdfgonkfgnfaaDoor

import Derived.Test.YtfiiaechippboaaDoorR21
import Derived.Test.YtfiiaechippboaaDoorR27
/- The walk of the law BatchParts. -/
namespace Go.Proofs.YtfiiaechippboaaDoor
open Go Go.RowKit Reg Mem

def PbRel1 (M : List Asn) (l : List Event) (w : World) (v i : Value) (wr : World) : Prop :=
  ∃ (j : Nat) (b : List Event), j ≤ l.length ∧ i = .int .i64 ((j : Int) - 1) ∧ Hid (b = (l.drop j).reverse) ∧ b.length ≤ 20 ∧ St (fun _ => False) w wr (Mem.Own 54 Event.cells 7 v b :: M)
def PbRel2 (M : List Asn) (t : Int) (l : List Event) (w : World) (v1 v2 i : Value) (wr : World) : Prop :=
  ∃ (j : Nat) (a b : List Event), j ≤ l.length ∧ i = .int .i64 j ∧ Hid (a = earlyE t (l.take j)) ∧ Hid (b = lateE t (l.take j)) ∧ a.length ≤ 20 ∧ b.length ≤ 20 ∧ St (fun _ => False) w wr (Mem.Own 54 Event.cells 7 v1 a :: Mem.Own 54 Event.cells 7 v2 b :: M)
set_option maxRecDepth 100000 in
set_option maxHeartbeats 16000000 in
theorem batchParts_calls (vs hs : List Value) (c : Cfg) (lp : Int) (s : State) (v : Value) (l : List Event) (t : Int) (w : World) (F F2 F3 : Nat → Prop) (h : (CfgA true vs hs c).at_ w F) (hw : Wide c) (hwb : WideB c) (h2 : (Sl true Event.cells 7 v l).at_ w F2) (hlen : l.length ≤ 9223372036854775807) (ht : Tab.at_ w F3) :
    Calls Tryd.prog 7 #[.agg vs.toArray, .agg #[.int .i64 lp, .int .i64 s.n0, .int .i64 s.n1, .int .i64 s.n2, .int .i64 s.n3, v], .int .i64 t] w fun r w' => r = .returned (.bool true) ∧ Below w.heap.size w w' := by
  have S : St (fun _ => False) w w [CfgA true vs hs c, Sl true Event.cells 7 v l, Tab] := (((St.init _ w).share rfl rfl ht).share (A := Sl true Event.cells 7 v l) rfl rfl h2).share rfl rfl h
  clear h h2 ht
  obtain ⟨ad, cp, rfl, _⟩ := (S.sl 1 rfl).elim fun _ h => h.form
  obtain ⟨aP, cP, aL, cL, aS, cS, rfl, _, _⟩ := S.cfg 0 rfl
  have HMd := Lib.hid fun w F F2 h ht => made_calls [.slice aP c.programs.length cP, .slice aL c.lps.length cL, .slice aS c.starts.length cS, .int .i64 c.fin, .int .i64 c.fuel, .int .i64 c.fan] hs c w F F2 h hw hwb ht
  have HTm := Lib.hid fun w F h => timely_calls (.slice ad l.length cp) l w F h hlen
  clear hw hwb
  go_enter Tryd.func7, Tryd.ntmps7
  go_wp2_with first
    | go_skip
    | ((with_reducible refine wpList_skip ?hw ?_); (case hw => with_unfolding_all rfl); simp only [Act.put, List.setIfInBounds_toArray, List.set_cons_succ, List.set_cons_zero])
    | ((with_reducible refine tot_done ?ht ?_); (case ht => kernel_rfl))
    | ((with_reducible apply wps_boxa (E := 26) S); (case hx => rfl); clear S; intro bx wz S)
    | ((with_reducible apply wps_boxa (E := 31) S); (case hx => rfl); clear S; intro by_ wz S)
    | ((with_reducible apply wps_loada (T := 26) (k := 6) S 1); (case hx => rfl); (case hi => rfl); (case hT => decide +kernel); (case hk => exact Nat.le_of_ble_eq_true rfl))
  refine Calls.mono (HMd.out _ _ _ (S.get (i := 2) rfl).choose_spec (S.get (i := 4) rfl).choose_spec) ?_
  clear HMd
  rintro r wz ⟨pv, vs2, hs2, rfl, (⟨hm, rfl, T⟩ | ⟨hm, R, vs3, hs3, rfl, T⟩)⟩
  · replace S := ((S.join T rfl).cfgShare 0 rfl).pick [0, 1, 2, 3, 4, 5] rfl
    repeat (first | simp only at S | simp only [pick] at S | simp only [nth] at S | simp only [List.set_cons_succ] at S | simp only [List.set_cons_zero] at S | simp only [List.setIfInBounds_toArray] at S | simp only [setAll] at S | simp only [List.cons_append] at S | simp only [List.nil_append] at S | simp only [List.append_nil] at S)
    clear T hm
    obtain ⟨aP2, cP2, aL2, cL2, aS2, cS2, rfl, _, _⟩ := S.cfg 0 rfl
    go_wp2_with first
      | go_skip
      | ((with_reducible refine wpList_skip ?hw ?_); (case hw => with_unfolding_all rfl); simp only [Act.put, List.setIfInBounds_toArray, List.set_cons_succ, List.set_cons_zero])
      | ((with_reducible refine tot_done ?ht ?_); (case ht => kernel_rfl))
      | ((with_reducible apply wps_alloca (E := 37) S); (case hz => exact Tryd.zeroValue37); clear S; intro b6 wz S)
      | ((with_reducible apply wps_storea (T := 37) S 0 (vs := [.slice aP2 c.programs.length cP2, .slice aL2 c.lps.length cL2, .slice aS2 c.starts.length cS2, .int .i64 c.fin, .int .i64 c.fuel, .int .i64 c.fan]) (m := 6)); (case hx => rfl); (case hy => rfl); (case hi => rfl); (case hT => decide +kernel); (case hm => rfl); (case h1 => rfl); (case hn => exact Nat.le_of_ble_eq_true rfl); clear S; intro wz S; simp only [List.set_cons_zero, List.set_cons_succ, setAll, List.setIfInBounds_toArray] at S)
      | (go_at_call 11; refine Calls.mono (awake8_calls _ _ (S.get (i := 6) rfl).choose_spec) ?_; rintro e wz ⟨rfl, hE⟩; replace S := S.ext (Keep.of_below hE); clear hE)
    go_ret
    exact ⟨rfl, S.below⟩
  replace S := (((S.join T rfl).modShare 0 rfl).cfgShare 1 rfl).pick [0, 1, 2, 3, 4, 5, 6] rfl
  repeat (first | simp only at S | simp only [pick] at S | simp only [nth] at S | simp only [List.set_cons_succ] at S | simp only [List.set_cons_zero] at S | simp only [List.setIfInBounds_toArray] at S | simp only [setAll] at S | simp only [List.cons_append] at S | simp only [List.nil_append] at S | simp only [List.append_nil] at S)
  clear T
  obtain ⟨aP2, cP2, aL2, cL2, aS2, cS2, rfl, _, _⟩ := S.cfg 1 rfl
  have hfw : fewB c = true ∧ cfgE c = 0 := by unfold madeB at hm; rw [Bool.and_eq_true, decide_eq_true_eq] at hm; exact hm
  have HC := Lib.hid hfw.2
  clear hm hfw
  cases htm : timelyB l with
  | false =>
    rw [htm] at HTm
    clear htm
    go_wp2_with first
      | go_skip
      | ((with_reducible refine wpList_skip ?hw ?_); (case hw => with_unfolding_all rfl); simp only [Act.put, List.setIfInBounds_toArray, List.set_cons_succ, List.set_cons_zero])
      | ((with_reducible refine tot_done ?ht ?_); (case ht => kernel_rfl))
      | ((with_reducible apply wps_alloca (E := 37) S); (case hz => exact Tryd.zeroValue37); clear S; intro b6 wz S)
      | ((with_reducible apply wps_storea (T := 37) S 0 (vs := [.slice aP2 c.programs.length cP2, .slice aL2 c.lps.length cL2, .slice aS2 c.starts.length cS2, .int .i64 c.fin, .int .i64 c.fuel, .int .i64 c.fan]) (m := 6)); (case hx => rfl); (case hy => rfl); (case hi => rfl); (case hT => decide +kernel); (case hm => rfl); (case h1 => rfl); (case hn => exact Nat.le_of_ble_eq_true rfl); clear S; intro wz S; simp only [List.set_cons_zero, List.set_cons_succ, setAll, List.setIfInBounds_toArray] at S)
      | ((with_reducible apply wps_load S 3); (case hx => rfl); (case hi => rfl); (case hT => decide +kernel); (case hu => rfl))
      | (go_at_call 10; refine Calls.mono (HTm.out _ _ (S.get (i := 6) rfl).choose_spec) ?_; rintro e wz ⟨rfl, hE⟩; replace S := S.ext (Keep.of_below hE); clear hE)
      | (go_at_call 11; refine Calls.mono (awake8_calls _ _ (S.get (i := 7) rfl).choose_spec) ?_; rintro e wz ⟨rfl, hE⟩; replace S := S.ext (Keep.of_below hE); clear hE)
    go_ret
    exact ⟨rfl, S.below⟩
  | true =>
  rw [htm] at HTm
  have htl : (∀ x ∈ l, 0 ≤ x.key.at_ ∧ x.key.at_ ≤ 1073741824) ∧ l.length ≤ 20 := by unfold timelyB at htm; rw [Bool.and_eq_true, decide_eq_true_eq, decide_eq_true_eq] at htm; exact htm
  clear htm
  obtain ⟨hta, htn⟩ := htl
  have Hta := Lib.hid hta
  have Htn := Lib.hid htn
  clear hta
  go_wp2_with first
    | go_skip
    | ((with_reducible refine wpList_skip ?hw ?_); (case hw => with_unfolding_all rfl); simp only [Act.put, List.setIfInBounds_toArray, List.set_cons_succ, List.set_cons_zero])
    | ((with_reducible refine tot_done ?ht ?_); (case ht => kernel_rfl))
    | ((with_reducible apply wps_alloca (E := 37) S); (case hz => exact Tryd.zeroValue37); clear S; intro b6 wz S)
    | ((with_reducible apply wps_storea (T := 37) S 0 (vs := [.slice aP2 c.programs.length cP2, .slice aL2 c.lps.length cL2, .slice aS2 c.starts.length cS2, .int .i64 c.fin, .int .i64 c.fuel, .int .i64 c.fan]) (m := 6)); (case hx => rfl); (case hy => rfl); (case hi => rfl); (case hT => decide +kernel); (case hm => rfl); (case h1 => rfl); (case hn => exact Nat.le_of_ble_eq_true rfl); clear S; intro wz S; simp only [List.set_cons_zero, List.set_cons_succ, setAll, List.setIfInBounds_toArray] at S)
    | ((with_reducible apply wps_load S 3); (case hx => rfl); (case hi => rfl); (case hT => decide +kernel); (case hu => rfl))
    | (go_at_call 10; refine Calls.mono (HTm.out _ _ (S.get (i := 6) rfl).choose_spec) ?_; rintro e wz ⟨rfl, hE⟩; replace S := S.ext (Keep.of_below hE); clear hE)
  replace S := (S.pick [1, 3, 6, 7] rfl).nil 54 Event.cells 7
  repeat (first | simp only at S | simp only [pick] at S | simp only [nth] at S | simp only [List.set_cons_succ] at S | simp only [List.set_cons_zero] at S | simp only [List.setIfInBounds_toArray] at S | simp only [setAll] at S | simp only [List.cons_append] at S | simp only [List.nil_append] at S | simp only [List.append_nil] at S)
  clear HTm
  go_loopw [9, 12] (fun v i wr => PbRel1 [ModA true 93 R vs3 hs3 c, Blk false by_ #[.int .i64 lp, .int .i64 s.n0, .int .i64 s.n1, .int .i64 s.n2, .int .i64 s.n3, .slice ad l.length cp] 31, Sl true Event.cells 7 (.slice ad l.length cp) l, Tab] l w v i wr) (fun _ i _ => (intOf i + 1).toNat)
  case atStart => exact ⟨l.length, [], Nat.le_refl _, by go_num, by simp [Hid], by simp, S⟩
  case round =>
    clear S
    obtain ⟨j, b, hj, rfl, Hb, hbl, S⟩ := hrel
    by_cases hlt : 0 < j
    · obtain ⟨k, rfl⟩ : ∃ k, j = k + 1 := ⟨j - 1, by omega⟩
      obtain ⟨x, hx⟩ : ∃ x, l[k]? = some x := ⟨_, List.getElem?_eq_getElem (by omega)⟩
      obtain ⟨R0, o0, rfl⟩ : ∃ R o, ad = some ⟨R, o, none⟩ := (S.sl 3 rfl).elim fun F h => h.head (by omega)
      rw [show (((k + 1 : Nat) : Int) - 1) = (k : Int) by omega]
      have hk0 : (0 : Int) ≤ k := by omega
      have hkl : (k : Int) < l.length := by omega
      have Hx := Lib.hid hx
      clear hx
      go_wp2_with first
        | go_skip
        | ((with_reducible refine wpList_skip ?hw ?_); (case hw => with_unfolding_all rfl); simp only [Act.put, List.setIfInBounds_toArray, List.set_cons_succ, List.set_cons_zero])
        | ((with_reducible apply wps_load S 2); (case hx => rfl); (case hi => rfl); (case hT => decide +kernel); (case hu => rfl))
        | ((with_reducible apply wps_load S 3); (case hx => rfl); (case hi => rfl); (case hT => decide +kernel); (case hu => rfl))
        | ((with_reducible apply wps_loada_el S 3 (hj := Hx.out) (q := 0) (vs := [.int .i64 x.key.at_, .int .i64 x.key.src, .int .i64 x.key.sent, .int .i64 x.key.no, .int .i64 x.dst, .int .i64 x.kind, .int .i64 x.data]) (m := 7)); (case hx => rfl); (case hT => decide +kernel); (case hi => rfl); (case hn => omega); (case hm => rfl); (case hv => rfl))
        | ((with_reducible apply wps_loada_el S 3 (hj := Hx.out) (q := 0) (vs := [.int .i64 x.key.at_, .int .i64 x.key.src, .int .i64 x.key.sent, .int .i64 x.key.no]) (m := 4)); (case hx => rfl); (case hT => decide +kernel); (case hi => rfl); (case hn => omega); (case hm => rfl); (case hv => rfl))
        | ((with_reducible apply wps_load_el S 3 (hj := Hx.out) (q := 0) (u := .int .i64 x.key.at_)); (case hx => rfl); (case hi => rfl); (case hn => omega); (case hT => decide +kernel); (case hu => rfl))
        | ((with_reducible apply wps_loada_el S 4 (hj := Hx.out) (q := 0) (vs := [.int .i64 x.key.at_, .int .i64 x.key.src, .int .i64 x.key.sent, .int .i64 x.key.no, .int .i64 x.dst, .int .i64 x.kind, .int .i64 x.data]) (m := 7)); (case hx => rfl); (case hT => decide +kernel); (case hi => rfl); (case hn => omega); (case hm => rfl); (case hv => rfl))
        | ((with_reducible apply wps_loada_el S 4 (hj := Hx.out) (q := 0) (vs := [.int .i64 x.key.at_, .int .i64 x.key.src, .int .i64 x.key.sent, .int .i64 x.key.no]) (m := 4)); (case hx => rfl); (case hT => decide +kernel); (case hi => rfl); (case hn => omega); (case hm => rfl); (case hv => rfl))
        | ((with_reducible apply wps_load_el S 4 (hj := Hx.out) (q := 0) (u := .int .i64 x.key.at_)); (case hx => rfl); (case hi => rfl); (case hn => omega); (case hT => decide +kernel); (case hu => rfl))
        | ((with_reducible apply wps_build1a (T := 29) (E := 54) S); (case hx => rfl); (case hr => intro w; kernel_rfl); clear S; intro bz wz S)
        | ((with_reducible apply wps_append1 elem_Ev ecells eone (by decide) S 1 (j := 0) (e := x)); (case hx => rfl); (case hy => rfl); (case hi => rfl); (case hj => rfl); (case he => rfl); (case hl => first | omega | (simp; omega)); clear S; intro az nz cz wz hnz S; simp only [List.set_cons_succ, List.set_cons_zero] at S)
        | ((with_reducible refine tot_done ?ht ?_); (case ht => kernel_rfl))
        | ((with_reducible apply wps_alloca (E := 28) S); (case hz => exact Tryd.zeroValue28); clear S; intro bz wz S)
        | ((with_reducible apply wps_alloca (E := 37) S); (case hz => exact Tryd.zeroValue37); clear S; intro bz wz S)
        | ((with_reducible apply wps_load S 0); (case hx => rfl); (case hi => rfl); (case hT => decide +kernel); (case hu => rfl))
        | ((with_reducible apply wps_loada (T := 26) (k := 6) S 0); (case hx => rfl); (case hi => rfl); (case hT => decide +kernel); (case hk => exact Nat.le_of_ble_eq_true rfl))
        | ((with_reducible apply wps_loada (T := 28) (k := 4) S 0); (case hx => rfl); (case hi => rfl); (case hT => decide +kernel); (case hk => exact Nat.le_of_ble_eq_true rfl))
        | ((with_reducible apply wps_loada (T := 54) (k := 7) S 0); (case hx => rfl); (case hi => rfl); (case hT => decide +kernel); (case hk => exact Nat.le_of_ble_eq_true rfl))
      go_roundw
      case rel =>
        have Hb2 : Hid (b ++ [x] = (l.drop k).reverse) := by show _ = _; rw [rev_push Hx.out, ← Hb.out]
        refine ⟨k, b ++ [x], by omega, by go_num, Hb2, ?_, S.pick [1, 2, 3, 4, 5] rfl⟩
        rw [Hb2.out, List.length_reverse, List.length_drop]; omega
      case measure => first | (simp [intOf]; done) | (simp [intOf]; omega)
    · obtain rfl : j = 0 := by omega
      rw [show (((0 : Nat) : Int) - 1) = -1 by rfl]
      have Hb2 : Hid (b = l.reverse) := Hb
      clear Hb
      obtain ⟨adb, cpb, rfl, _⟩ := (S.ownsl ecells 0 rfl).elim fun _ h => h.form
      replace S := (S.nil 54 Event.cells 7).nil 54 Event.cells 7
      go_wp2_with first
        | go_skip
        | ((with_reducible refine wpList_skip ?hw ?_); (case hw => with_unfolding_all rfl); simp only [Act.put, List.setIfInBounds_toArray, List.set_cons_succ, List.set_cons_zero])
        | ((with_reducible refine tot_done ?ht ?_); (case ht => kernel_rfl))
        | ((with_reducible apply wps_alloca (E := 28) S); (case hz => exact Tryd.zeroValue28); clear S; intro bz wz S)
        | ((with_reducible apply wps_alloca (E := 37) S); (case hz => exact Tryd.zeroValue37); clear S; intro bz wz S)
        | ((with_reducible apply wps_load S 0); (case hx => rfl); (case hi => rfl); (case hT => decide +kernel); (case hu => rfl))
        | ((with_reducible apply wps_loada (T := 26) (k := 6) S 0); (case hx => rfl); (case hi => rfl); (case hT => decide +kernel); (case hk => exact Nat.le_of_ble_eq_true rfl))
        | ((with_reducible apply wps_loada (T := 28) (k := 4) S 0); (case hx => rfl); (case hi => rfl); (case hT => decide +kernel); (case hk => exact Nat.le_of_ble_eq_true rfl))
        | ((with_reducible apply wps_loada (T := 54) (k := 7) S 0); (case hx => rfl); (case hi => rfl); (case hT => decide +kernel); (case hk => exact Nat.le_of_ble_eq_true rfl))
      go_loopw [10, 11, 13] (fun v1 v2 i wr => PbRel2 [Mem.Own 54 Event.cells 7 (.slice adb b.length cpb) b, ModA true 93 R vs3 hs3 c, Blk false by_ #[.int .i64 lp, .int .i64 s.n0, .int .i64 s.n1, .int .i64 s.n2, .int .i64 s.n3, .slice ad l.length cp] 31, Sl true Event.cells 7 (.slice ad l.length cp) l, Tab] t l w v1 v2 i wr) (fun _ _ i _ => l.length - (intOf i).toNat)
      case atStart => exact ⟨0, [], [], Nat.zero_le _, rfl, rfl, rfl, by simp, by simp, S⟩
      case round =>
        clear S
        obtain ⟨j, a', b', hj, rfl, Ha, Hl, hal, hbl2, S⟩ := hrel
        by_cases hlt : j < l.length
        · obtain ⟨x, hx⟩ : ∃ x, l[j]? = some x := ⟨_, List.getElem?_eq_getElem hlt⟩
          obtain ⟨R0, o0, rfl⟩ : ∃ R o, ad = some ⟨R, o, none⟩ := (S.sl 5 rfl).elim fun F h => h.head (by omega)
          have hkl : (j : Int) < l.length := by omega
          have hla : (earlyE t (l.take (j + 1))).length ≤ 20 := by have := (early_sub t (l.take (j + 1))).length_le; rw [List.length_take] at this; omega
          have hlb : (lateE t (l.take (j + 1))).length ≤ 20 := by have := (late_sub t (l.take (j + 1))).length_le; rw [List.length_take] at this; omega
          have HLa := Lib.hid hla
          have HLb := Lib.hid hlb
          clear hla hlb
          have Hx := Lib.hid hx
          clear hx
          by_cases hk : x.key.at_ < t
          · have k1 : decide (x.key.at_ < t) = true := decide_eq_true hk
            have Ha2 : Hid (a' ++ [x] = earlyE t (l.take (j + 1))) := by show _ = _; rw [early_push Hx.out, if_pos hk, ← Ha.out]
            have Hl2 : Hid (b' = lateE t (l.take (j + 1))) := by show _ = _; rw [late_push Hx.out, if_pos hk]; exact Hl.out
            clear hk
            go_wp2_with first
              | go_skip
              | ((with_reducible refine wpList_skip ?hw ?_); (case hw => with_unfolding_all rfl); simp only [Act.put, List.setIfInBounds_toArray, List.set_cons_succ, List.set_cons_zero])
              | ((with_reducible apply wps_load S 4); (case hx => rfl); (case hi => rfl); (case hT => decide +kernel); (case hu => rfl))
              | ((with_reducible apply wps_load S 5); (case hx => rfl); (case hi => rfl); (case hT => decide +kernel); (case hu => rfl))
              | ((with_reducible apply wps_loada_el S 5 (hj := Hx.out) (q := 0) (vs := [.int .i64 x.key.at_, .int .i64 x.key.src, .int .i64 x.key.sent, .int .i64 x.key.no, .int .i64 x.dst, .int .i64 x.kind, .int .i64 x.data]) (m := 7)); (case hx => rfl); (case hT => decide +kernel); (case hi => rfl); (case hn => omega); (case hm => rfl); (case hv => rfl))
              | ((with_reducible apply wps_loada_el S 5 (hj := Hx.out) (q := 0) (vs := [.int .i64 x.key.at_, .int .i64 x.key.src, .int .i64 x.key.sent, .int .i64 x.key.no]) (m := 4)); (case hx => rfl); (case hT => decide +kernel); (case hi => rfl); (case hn => omega); (case hm => rfl); (case hv => rfl))
              | ((with_reducible apply wps_load_el S 5 (hj := Hx.out) (q := 0) (u := .int .i64 x.key.at_)); (case hx => rfl); (case hi => rfl); (case hn => omega); (case hT => decide +kernel); (case hu => rfl))
              | ((with_reducible apply wps_loada_el S 6 (hj := Hx.out) (q := 0) (vs := [.int .i64 x.key.at_, .int .i64 x.key.src, .int .i64 x.key.sent, .int .i64 x.key.no, .int .i64 x.dst, .int .i64 x.kind, .int .i64 x.data]) (m := 7)); (case hx => rfl); (case hT => decide +kernel); (case hi => rfl); (case hn => omega); (case hm => rfl); (case hv => rfl))
              | ((with_reducible apply wps_loada_el S 6 (hj := Hx.out) (q := 0) (vs := [.int .i64 x.key.at_, .int .i64 x.key.src, .int .i64 x.key.sent, .int .i64 x.key.no]) (m := 4)); (case hx => rfl); (case hT => decide +kernel); (case hi => rfl); (case hn => omega); (case hm => rfl); (case hv => rfl))
              | ((with_reducible apply wps_load_el S 6 (hj := Hx.out) (q := 0) (u := .int .i64 x.key.at_)); (case hx => rfl); (case hi => rfl); (case hn => omega); (case hT => decide +kernel); (case hu => rfl))
              | ((with_reducible apply wps_build1a (T := 29) (E := 54) S); (case hx => rfl); (case hr => intro w; kernel_rfl); clear S; intro bz wz S)
              | ((with_reducible apply wps_append1 elem_Ev ecells eone (by decide) S 1 (j := 0) (e := x)); (case hx => rfl); (case hy => rfl); (case hi => rfl); (case hj => rfl); (case he => rfl); (case hl => first | omega | (simp; omega)); clear S; intro az nz cz wz hnz S; simp only [List.set_cons_succ, List.set_cons_zero] at S)
              | ((with_reducible refine tot_done ?ht ?_); (case ht => kernel_rfl))
              | ((with_reducible apply wps_alloca (E := 28) S); (case hz => exact Tryd.zeroValue28); clear S; intro bz wz S)
              | ((with_reducible apply wps_alloca (E := 37) S); (case hz => exact Tryd.zeroValue37); clear S; intro bz wz S)
              | ((with_reducible apply wps_load S 0); (case hx => rfl); (case hi => rfl); (case hT => decide +kernel); (case hu => rfl))
              | ((with_reducible apply wps_loada (T := 26) (k := 6) S 0); (case hx => rfl); (case hi => rfl); (case hT => decide +kernel); (case hk => exact Nat.le_of_ble_eq_true rfl))
              | ((with_reducible apply wps_loada (T := 28) (k := 4) S 0); (case hx => rfl); (case hi => rfl); (case hT => decide +kernel); (case hk => exact Nat.le_of_ble_eq_true rfl))
              | ((with_reducible apply wps_loada (T := 54) (k := 7) S 0); (case hx => rfl); (case hi => rfl); (case hT => decide +kernel); (case hk => exact Nat.le_of_ble_eq_true rfl))
            go_roundw
            case rel =>
              exact ⟨j + 1, a' ++ [x], b', by omega, by go_num, Ha2, Hl2, by rw [Ha2.out]; exact HLa.out, by rw [Hl2.out]; exact HLb.out, S.pick [1, 2, 3, 4, 5, 6, 7] rfl⟩
            case measure => first | (simp [intOf]; done) | (simp [intOf]; omega)
          · have k1 : decide (x.key.at_ < t) = false := decide_eq_false hk
            have Ha2 : Hid (a' = earlyE t (l.take (j + 1))) := by show _ = _; rw [early_push Hx.out, if_neg hk]; exact Ha.out
            have Hl2 : Hid (b' ++ [x] = lateE t (l.take (j + 1))) := by show _ = _; rw [late_push Hx.out, if_neg hk, ← Hl.out]
            clear hk
            go_wp2_with first
              | go_skip
              | ((with_reducible refine wpList_skip ?hw ?_); (case hw => with_unfolding_all rfl); simp only [Act.put, List.setIfInBounds_toArray, List.set_cons_succ, List.set_cons_zero])
              | ((with_reducible apply wps_load S 4); (case hx => rfl); (case hi => rfl); (case hT => decide +kernel); (case hu => rfl))
              | ((with_reducible apply wps_load S 5); (case hx => rfl); (case hi => rfl); (case hT => decide +kernel); (case hu => rfl))
              | ((with_reducible apply wps_loada_el S 5 (hj := Hx.out) (q := 0) (vs := [.int .i64 x.key.at_, .int .i64 x.key.src, .int .i64 x.key.sent, .int .i64 x.key.no, .int .i64 x.dst, .int .i64 x.kind, .int .i64 x.data]) (m := 7)); (case hx => rfl); (case hT => decide +kernel); (case hi => rfl); (case hn => omega); (case hm => rfl); (case hv => rfl))
              | ((with_reducible apply wps_loada_el S 5 (hj := Hx.out) (q := 0) (vs := [.int .i64 x.key.at_, .int .i64 x.key.src, .int .i64 x.key.sent, .int .i64 x.key.no]) (m := 4)); (case hx => rfl); (case hT => decide +kernel); (case hi => rfl); (case hn => omega); (case hm => rfl); (case hv => rfl))
              | ((with_reducible apply wps_load_el S 5 (hj := Hx.out) (q := 0) (u := .int .i64 x.key.at_)); (case hx => rfl); (case hi => rfl); (case hn => omega); (case hT => decide +kernel); (case hu => rfl))
              | ((with_reducible apply wps_loada_el S 6 (hj := Hx.out) (q := 0) (vs := [.int .i64 x.key.at_, .int .i64 x.key.src, .int .i64 x.key.sent, .int .i64 x.key.no, .int .i64 x.dst, .int .i64 x.kind, .int .i64 x.data]) (m := 7)); (case hx => rfl); (case hT => decide +kernel); (case hi => rfl); (case hn => omega); (case hm => rfl); (case hv => rfl))
              | ((with_reducible apply wps_loada_el S 6 (hj := Hx.out) (q := 0) (vs := [.int .i64 x.key.at_, .int .i64 x.key.src, .int .i64 x.key.sent, .int .i64 x.key.no]) (m := 4)); (case hx => rfl); (case hT => decide +kernel); (case hi => rfl); (case hn => omega); (case hm => rfl); (case hv => rfl))
              | ((with_reducible apply wps_load_el S 6 (hj := Hx.out) (q := 0) (u := .int .i64 x.key.at_)); (case hx => rfl); (case hi => rfl); (case hn => omega); (case hT => decide +kernel); (case hu => rfl))
              | ((with_reducible apply wps_build1a (T := 29) (E := 54) S); (case hx => rfl); (case hr => intro w; kernel_rfl); clear S; intro bz wz S)
              | ((with_reducible apply wps_append1 elem_Ev ecells eone (by decide) S 2 (j := 0) (e := x)); (case hx => rfl); (case hy => rfl); (case hi => rfl); (case hj => rfl); (case he => rfl); (case hl => first | omega | (simp; omega)); clear S; intro az nz cz wz hnz S; simp only [List.set_cons_succ, List.set_cons_zero] at S)
              | ((with_reducible refine tot_done ?ht ?_); (case ht => kernel_rfl))
              | ((with_reducible apply wps_alloca (E := 28) S); (case hz => exact Tryd.zeroValue28); clear S; intro bz wz S)
              | ((with_reducible apply wps_alloca (E := 37) S); (case hz => exact Tryd.zeroValue37); clear S; intro bz wz S)
              | ((with_reducible apply wps_load S 0); (case hx => rfl); (case hi => rfl); (case hT => decide +kernel); (case hu => rfl))
              | ((with_reducible apply wps_loada (T := 26) (k := 6) S 0); (case hx => rfl); (case hi => rfl); (case hT => decide +kernel); (case hk => exact Nat.le_of_ble_eq_true rfl))
              | ((with_reducible apply wps_loada (T := 28) (k := 4) S 0); (case hx => rfl); (case hi => rfl); (case hT => decide +kernel); (case hk => exact Nat.le_of_ble_eq_true rfl))
              | ((with_reducible apply wps_loada (T := 54) (k := 7) S 0); (case hx => rfl); (case hi => rfl); (case hT => decide +kernel); (case hk => exact Nat.le_of_ble_eq_true rfl))
            go_roundw
            case rel =>
              exact ⟨j + 1, a', b' ++ [x], by omega, by go_num, Ha2, Hl2, by rw [Ha2.out]; exact HLa.out, by rw [Hl2.out]; exact HLb.out, S.pick [1, 2, 3, 4, 5, 6, 7] rfl⟩
            case measure => first | (simp [intOf]; done) | (simp [intOf]; omega)
        · obtain rfl : j = l.length := by omega
          have Ha2 : Hid (a' = earlyE t l) := by have := Ha.out; rw [List.take_length] at this; exact this
          have Hl2 : Hid (b' = lateE t l) := by have := Hl.out; rw [List.take_length] at this; exact this
          clear Ha Hl
          obtain rfl : a' = earlyE t l := Ha2.out
          obtain rfl : b' = lateE t l := Hl2.out
          clear Ha2 Hl2 hbl
          replace S := ((S.freeze true 0 ecells rfl).freeze true 1 ecells rfl).freeze true 2 ecells rfl
          repeat (first | simp only at S | simp only [pick] at S | simp only [nth] at S | simp only [List.set_cons_succ] at S | simp only [List.set_cons_zero] at S | simp only [List.setIfInBounds_toArray] at S | simp only [setAll] at S | simp only [List.cons_append] at S | simp only [List.nil_append] at S | simp only [List.append_nil] at S)
          have HCf := Lib.hid (cfg_isfine HC.out)
          have hrv : b.Perm l := by rw [Hb2.out]; exact List.reverse_perm l
          have hbn : b.length ≤ 20 := by rw [hrv.length_eq]; exact Htn.out
          have HR1 := Lib.hid fun w F F2 F3 h h2 h3 => bReplay_calls R vs3 hs3 c lp s (.slice ad l.length cp) l w F F2 F3 h h2 h3 (by have := Htn.out; omega) HC.out (fun _ => Hta.out)
          have HR2 := Lib.hid fun w F F2 F3 h h2 h3 => bReplay_calls R vs3 hs3 c lp s (.slice adb b.length cpb) b w F F2 F3 h h2 h3 (by omega) HC.out (fun _ x hx => Hta.out x (hrv.mem_iff.1 hx))
          have HS1 := Lib.hid fun w F F2 F3 h h2 h3 => bSends_calls R vs3 hs3 c lp s (.slice ad l.length cp) l w F F2 F3 h h2 h3 (by have := Htn.out; omega) HC.out (fun _ => Hta.out)
          rw [many_perm hrv, alone_perm hrv] at HR2
          have hm1n := manyC_len HCf.out lp s l
          obtain ⟨m1, hm1⟩ : ∃ m, manyC c lp s l = m := ⟨_, rfl⟩
          obtain ⟨e, he⟩ : ∃ e, aloneE c.lps.length lp l = e := ⟨_, rfl⟩
          rw [hm1, he] at HR1 HR2 HS1
          rw [hm1] at hm1n
          have hm1b : m1.2.length ≤ 3200 := Nat.le_trans hm1n (Nat.mul_le_mul Htn.out (Nat.mul_le_mul_left 8 Htn.out))
          have Hm1b := Lib.hid hm1b
          have HNE : Hid ((!ceqs [.int .i64 m1.1.n0, .int .i64 m1.1.n1, .int .i64 m1.1.n2, .int .i64 m1.1.n3] [.int .i64 m1.1.n0, .int .i64 m1.1.n1, .int .i64 m1.1.n2, .int .i64 m1.1.n3]) = false) := by show _ = _; simp [ceqs, ceq]
          have Hm1 := Lib.hid hm1
          have He := Lib.hid he
          clear hm1 he
          clear hrv hbn hm1n hm1b
          go_wp2_with first
            | go_skip
            | ((with_reducible refine wpList_skip ?hw ?_); (case hw => with_unfolding_all rfl); simp only [Act.put, List.setIfInBounds_toArray, List.set_cons_succ, List.set_cons_zero])
            | ((with_reducible refine tot_done ?ht ?_); (case ht => kernel_rfl))
            | ((with_reducible apply wps_load S 4); (case hx => rfl); (case hi => rfl); (case hT => decide +kernel); (case hu => rfl))
            | ((with_reducible apply wps_loada (T := 28) (k := 4) S 4); (case hx => rfl); (case hi => rfl); (case hT => decide +kernel); (case hk => exact Nat.le_of_ble_eq_true rfl))
          refine Calls.mono (HR1.out _ _ _ _ (S.get (i := 3) rfl).choose_spec (S.get (i := 5) rfl).choose_spec (S.get (i := 6) rfl).choose_spec) ?_
          clear HR1
          rintro r wz ⟨rfl, hE⟩
          replace S := S.ext (Keep.of_below hE)
          clear hE
          go_wp2_with first
            | go_skip
            | ((with_reducible refine wpList_skip ?hw ?_); (case hw => with_unfolding_all rfl); simp only [Act.put, List.setIfInBounds_toArray, List.set_cons_succ, List.set_cons_zero])
            | ((with_reducible refine tot_done ?ht ?_); (case ht => kernel_rfl))
            | ((with_reducible apply wps_alloca (E := 28) S); (case hz => exact Tryd.zeroValue28); clear S; intro b14 wz S)
            | ((with_reducible apply wps_storea (T := 28) S 0 (vs := [.int .i64 m1.1.n0, .int .i64 m1.1.n1, .int .i64 m1.1.n2, .int .i64 m1.1.n3]) (m := 4)); (case hx => rfl); (case hy => rfl); (case hi => rfl); (case hT => decide +kernel); (case hm => rfl); (case h1 => rfl); (case hn => exact Nat.le_of_ble_eq_true rfl); clear S; intro wz S; simp only [List.set_cons_zero, List.set_cons_succ, setAll, List.setIfInBounds_toArray] at S)
            | ((with_reducible apply wps_load S 5); (case hx => rfl); (case hi => rfl); (case hT => decide +kernel); (case hu => rfl))
            | ((with_reducible apply wps_loada (T := 28) (k := 4) S 5); (case hx => rfl); (case hi => rfl); (case hT => decide +kernel); (case hk => exact Nat.le_of_ble_eq_true rfl))
          refine Calls.mono (HR2.out _ _ _ _ (S.get (i := 4) rfl).choose_spec (S.get (i := 3) rfl).choose_spec (S.get (i := 7) rfl).choose_spec) ?_
          clear HR2
          rintro r wz ⟨rfl, hE⟩
          replace S := S.ext (Keep.of_below hE)
          clear hE
          go_wp2_with first
            | go_skip
            | ((with_reducible refine wpList_skip ?hw ?_); (case hw => with_unfolding_all rfl); simp only [Act.put, List.setIfInBounds_toArray, List.set_cons_succ, List.set_cons_zero])
            | ((with_reducible refine tot_done ?ht ?_); (case ht => kernel_rfl))
            | ((with_reducible apply wps_alloca (E := 28) S); (case hz => exact Tryd.zeroValue28); clear S; intro b16 wz S)
            | ((with_reducible apply wps_storea (T := 28) S 0 (vs := [.int .i64 m1.1.n0, .int .i64 m1.1.n1, .int .i64 m1.1.n2, .int .i64 m1.1.n3]) (m := 4)); (case hx => rfl); (case hy => rfl); (case hi => rfl); (case hT => decide +kernel); (case hm => rfl); (case h1 => rfl); (case hn => exact Nat.le_of_ble_eq_true rfl); clear S; intro wz S; simp only [List.set_cons_zero, List.set_cons_succ, setAll, List.setIfInBounds_toArray] at S)
            | ((with_reducible apply wps_load S 6); (case hx => rfl); (case hi => rfl); (case hT => decide +kernel); (case hu => rfl))
            | ((with_reducible apply wps_loada (T := 28) (k := 4) S 6); (case hx => rfl); (case hi => rfl); (case hT => decide +kernel); (case hk => exact Nat.le_of_ble_eq_true rfl))
          refine Calls.mono (HS1.out _ _ _ _ (S.get (i := 5) rfl).choose_spec (S.get (i := 7) rfl).choose_spec (S.get (i := 8) rfl).choose_spec) ?_
          clear HS1
          rintro r wz ⟨v2, rfl, T⟩
          obtain ⟨ad18, cp18, rfl, _⟩ := (T.ownsl ecells 0 rfl).elim fun _ h => h.form
          replace S := S.join T rfl
          clear T
          simp only [List.cons_append, List.nil_append] at S
          by_cases h0 : e = 0
          case neg =>
            have k1 : (e != 0) = true := by simpa using h0
            have k2 : (e != e) = false := by simp
            have k3 : (((m1.2.length : Nat) : Int) == 0) = true := by
              rw [← Hm1.out, manyC_err (by rw [He.out]; exact h0)]; rfl
            clear h0
            go_wp2_with first
              | go_skip
              | ((with_reducible refine wpList_skip ?hw ?_); (case hw => with_unfolding_all rfl); simp only [Act.put, List.setIfInBounds_toArray, List.set_cons_succ, List.set_cons_zero])
              | ((with_reducible refine tot_done ?ht ?_); (case ht => kernel_rfl))
              | ((with_reducible apply wps_loada (T := 28) (k := 4) S 2); (case hx => rfl); (case hi => rfl); (case hT => decide +kernel); (case hk => exact Nat.le_of_ble_eq_true rfl))
              | ((with_reducible apply wps_loada (T := 28) (k := 4) S 1); (case hx => rfl); (case hi => rfl); (case hT => decide +kernel); (case hk => exact Nat.le_of_ble_eq_true rfl))
              | ((with_reducible apply wpList_neq_agg (t := 28) (ks := [.int .i64, .int .i64, .int .i64, .int .i64]) (b := _)); (case hx => rfl); (case hy => rfl); (case hl => kernel_rfl); (case ha => kernel_rfl); (case hg => kernel_rfl); (case hfx => rfl); (case hfy => rfl); (case hb => exact HNE.out))
              | (go_at_call 11; refine Calls.mono (awake8_calls _ _ (S.get (i := 9) rfl).choose_spec) ?_; rintro e wz ⟨rfl, hE⟩; replace S := S.ext (Keep.of_below hE); clear hE)
            go_ret
            exact ⟨rfl, S.below⟩
          subst h0
          have hae := alone_sub (early_sub t l) He.out
          have hla := alone_sub (late_sub t l) He.out
          have hmp := manyC_parts (c := c) (lp := lp) (s := s) (l := l) t He.out
          have HR3 := Lib.hid fun w F F2 F3 h h2 h3 => bReplay_calls R vs3 hs3 c lp s u10 (earlyE t l) w F F2 F3 h h2 h3 (by omega) HC.out (fun _ x hx => Hta.out x ((early_sub t l).subset hx))
          have HR4 := Lib.hid fun w F F2 F3 h h2 h3 => bReplay_calls R vs3 hs3 c lp (manyC c lp s (earlyE t l)).1 u11 (lateE t l) w F F2 F3 h h2 h3 (by omega) HC.out (fun _ x hx => Hta.out x ((late_sub t l).subset hx))
          have HS3 := Lib.hid fun w F F2 F3 h h2 h3 => bSends_calls R vs3 hs3 c lp s u10 (earlyE t l) w F F2 F3 h h2 h3 (by omega) HC.out (fun _ x hx => Hta.out x ((early_sub t l).subset hx))
          have HS4 := Lib.hid fun w F F2 F3 h h2 h3 => bSends_calls R vs3 hs3 c lp (manyC c lp s (earlyE t l)).1 u11 (lateE t l) w F F2 F3 h h2 h3 (by omega) HC.out (fun _ x hx => Hta.out x ((late_sub t l).subset hx))
          rw [hae] at HR3 HS3
          rw [hla] at HR4 HS4
          rw [Hm1.out] at hmp
          have hb3 : (manyC c lp s (earlyE t l)).2.length ≤ 3200 := Nat.le_trans (manyC_len HCf.out lp s (earlyE t l)) (Nat.mul_le_mul hal (Nat.mul_le_mul_left 8 hal))
          have hb4 : (manyC c lp (manyC c lp s (earlyE t l)).1 (lateE t l)).2.length ≤ 3200 := Nat.le_trans (manyC_len HCf.out lp _ (lateE t l)) (Nat.mul_le_mul hbl2 (Nat.mul_le_mul_left 8 hbl2))
          clear hae hla
          generalize manyC c lp s (earlyE t l) = m3 at *
          generalize manyC c lp m3.1 (lateE t l) = m4 at *
          have hA : m1.1 = m4.1 := by rw [hmp]
          have hB : m3.2 ++ m4.2 = m1.2 := by rw [hmp]
          have HQ : Hid (∀ v1 v2 w F1 F2, (Sl true Event.cells 7 v1 (m3.2 ++ m4.2)).at_ w F1 → (Sl true Event.cells 7 v2 m1.2).at_ w F2 → Calls Tryd.prog 16 #[v1, v2] w fun r w' => r = .returned (.bool true) ∧ Below w.heap.size w w') := fun v1 v2 w F1 F2 h1 h2 => by
            have := evseq_calls v1 v2 (m3.2 ++ m4.2) m1.2 w F1 F2 h1 h2 (by rw [List.length_append]; omega) (by have := Hm1b.out; omega)
            rwa [decide_eq_true hB] at this
          have HEQ : Hid (ceqs [.int .i64 m4.1.n0, .int .i64 m4.1.n1, .int .i64 m4.1.n2, .int .i64 m4.1.n3] [.int .i64 m1.1.n0, .int .i64 m1.1.n1, .int .i64 m1.1.n2, .int .i64 m1.1.n3] = true) := by show _ = _; rw [hA]; simp [ceqs, ceq]
          clear hA hB hmp
          go_wp2_with first
            | go_skip
            | ((with_reducible refine wpList_skip ?hw ?_); (case hw => with_unfolding_all rfl); simp only [Act.put, List.setIfInBounds_toArray, List.set_cons_succ, List.set_cons_zero])
            | ((with_reducible refine tot_done ?ht ?_); (case ht => kernel_rfl))
            | ((with_reducible apply wps_loada (T := 28) (k := 4) S 2); (case hx => rfl); (case hi => rfl); (case hT => decide +kernel); (case hk => exact Nat.le_of_ble_eq_true rfl))
            | ((with_reducible apply wps_loada (T := 28) (k := 4) S 1); (case hx => rfl); (case hi => rfl); (case hT => decide +kernel); (case hk => exact Nat.le_of_ble_eq_true rfl))
            | ((with_reducible apply wpList_neq_agg (t := 28) (ks := [.int .i64, .int .i64, .int .i64, .int .i64]) (b := _)); (case hx => rfl); (case hy => rfl); (case hl => kernel_rfl); (case ha => kernel_rfl); (case hg => kernel_rfl); (case hfx => rfl); (case hfy => rfl); (case hb => exact HNE.out))
            | ((with_reducible apply wps_load S 7); (case hx => rfl); (case hi => rfl); (case hT => decide +kernel); (case hu => rfl))
            | ((with_reducible apply wps_loada (T := 28) (k := 4) S 7); (case hx => rfl); (case hi => rfl); (case hT => decide +kernel); (case hk => exact Nat.le_of_ble_eq_true rfl))
          refine Calls.mono (HR3.out _ _ _ _ (S.get (i := 6) rfl).choose_spec (S.get (i := 3) rfl).choose_spec (S.get (i := 9) rfl).choose_spec) ?_
          clear HR3
          rintro r wz ⟨rfl, hE⟩
          replace S := S.ext (Keep.of_below hE)
          clear hE
          go_wp2_with first
            | go_skip
            | ((with_reducible refine wpList_skip ?hw ?_); (case hw => with_unfolding_all rfl); simp only [Act.put, List.setIfInBounds_toArray, List.set_cons_succ, List.set_cons_zero])
            | ((with_reducible refine tot_done ?ht ?_); (case ht => kernel_rfl))
            | ((with_reducible apply wps_alloca (E := 28) S); (case hz => exact Tryd.zeroValue28); clear S; intro b20 wz S)
            | ((with_reducible apply wps_storea (T := 28) S 0 (vs := [.int .i64 m3.1.n0, .int .i64 m3.1.n1, .int .i64 m3.1.n2, .int .i64 m3.1.n3]) (m := 4)); (case hx => rfl); (case hy => rfl); (case hi => rfl); (case hT => decide +kernel); (case hm => rfl); (case h1 => rfl); (case hn => exact Nat.le_of_ble_eq_true rfl); clear S; intro wz S; simp only [List.set_cons_zero, List.set_cons_succ, setAll, List.setIfInBounds_toArray] at S)
            | ((with_reducible apply wps_load S 8); (case hx => rfl); (case hi => rfl); (case hT => decide +kernel); (case hu => rfl))
            | ((with_reducible apply wps_loada (T := 28) (k := 4) S 0); (case hx => rfl); (case hi => rfl); (case hT => decide +kernel); (case hk => exact Nat.le_of_ble_eq_true rfl))
          refine Calls.mono (HR4.out _ _ _ _ (S.get (i := 7) rfl).choose_spec (S.get (i := 5) rfl).choose_spec (S.get (i := 10) rfl).choose_spec) ?_
          clear HR4
          rintro r wz ⟨rfl, hE⟩
          replace S := S.ext (Keep.of_below hE)
          clear hE
          go_wp2_with first
            | go_skip
            | ((with_reducible refine wpList_skip ?hw ?_); (case hw => with_unfolding_all rfl); simp only [Act.put, List.setIfInBounds_toArray, List.set_cons_succ, List.set_cons_zero])
            | ((with_reducible refine tot_done ?ht ?_); (case ht => kernel_rfl))
            | ((with_reducible apply wps_alloca (E := 28) S); (case hz => exact Tryd.zeroValue28); clear S; intro b22 wz S)
            | ((with_reducible apply wps_storea (T := 28) S 0 (vs := [.int .i64 m4.1.n0, .int .i64 m4.1.n1, .int .i64 m4.1.n2, .int .i64 m4.1.n3]) (m := 4)); (case hx => rfl); (case hy => rfl); (case hi => rfl); (case hT => decide +kernel); (case hm => rfl); (case h1 => rfl); (case hn => exact Nat.le_of_ble_eq_true rfl); clear S; intro wz S; simp only [List.set_cons_zero, List.set_cons_succ, setAll, List.setIfInBounds_toArray] at S)
            | ((with_reducible apply wps_load S 9); (case hx => rfl); (case hi => rfl); (case hT => decide +kernel); (case hu => rfl))
            | ((with_reducible apply wps_loada (T := 28) (k := 4) S 9); (case hx => rfl); (case hi => rfl); (case hT => decide +kernel); (case hk => exact Nat.le_of_ble_eq_true rfl))
          refine Calls.mono (HS3.out _ _ _ _ (S.get (i := 8) rfl).choose_spec (S.get (i := 5) rfl).choose_spec (S.get (i := 11) rfl).choose_spec) ?_
          clear HS3
          rintro r wz ⟨v2, rfl, T⟩
          obtain ⟨ad24, cp24, rfl, _⟩ := (T.ownsl ecells 0 rfl).elim fun _ h => h.form
          replace S := S.join T rfl
          clear T
          simp only [List.cons_append, List.nil_append] at S
          go_wp2_with first
            | go_skip
            | ((with_reducible refine wpList_skip ?hw ?_); (case hw => with_unfolding_all rfl); simp only [Act.put, List.setIfInBounds_toArray, List.set_cons_succ, List.set_cons_zero])
            | ((with_reducible refine tot_done ?ht ?_); (case ht => kernel_rfl))
            | ((with_reducible apply wps_load S 10); (case hx => rfl); (case hi => rfl); (case hT => decide +kernel); (case hu => rfl))
            | ((with_reducible apply wps_loada (T := 28) (k := 4) S 2); (case hx => rfl); (case hi => rfl); (case hT => decide +kernel); (case hk => exact Nat.le_of_ble_eq_true rfl))
          refine Calls.mono (HS4.out _ _ _ _ (S.get (i := 9) rfl).choose_spec (S.get (i := 7) rfl).choose_spec (S.get (i := 12) rfl).choose_spec) ?_
          clear HS4
          rintro r wz ⟨v2, rfl, T⟩
          obtain ⟨ad26, cp26, rfl, _⟩ := (T.ownsl ecells 0 rfl).elim fun _ h => h.form
          replace S := S.join T rfl
          clear T
          simp only [List.cons_append, List.nil_append] at S
          replace S := S.freeze true 0 ecells rfl
          repeat (first | simp only at S | simp only [pick] at S | simp only [nth] at S | simp only [List.set_cons_succ] at S | simp only [List.set_cons_zero] at S | simp only [List.setIfInBounds_toArray] at S | simp only [setAll] at S | simp only [List.cons_append] at S | simp only [List.nil_append] at S | simp only [List.append_nil] at S)
          go_wp2_with first
            | go_skip
            | ((with_reducible refine wpList_skip ?hw ?_); (case hw => with_unfolding_all rfl); simp only [Act.put, List.setIfInBounds_toArray, List.set_cons_succ, List.set_cons_zero])
            | ((with_reducible refine tot_done ?ht ?_); (case ht => kernel_rfl))
            | ((with_reducible apply wps_appends elem_Ev ecells eone (by decide) S 1 (j := 0)); (case hx => rfl); (case hy => rfl); (case hi => rfl); (case hj => rfl); (case hl => first | omega | (simp; omega)); clear S; intro az nz cz wz hnz S; simp only [List.set_cons_succ, List.set_cons_zero] at S)
            | ((with_reducible apply wps_loada (T := 28) (k := 4) S 2); (case hx => rfl); (case hi => rfl); (case hT => decide +kernel); (case hk => exact Nat.le_of_ble_eq_true rfl))
            | ((with_reducible apply wps_loada (T := 28) (k := 4) S 6); (case hx => rfl); (case hi => rfl); (case hT => decide +kernel); (case hk => exact Nat.le_of_ble_eq_true rfl))
            | ((with_reducible apply wpList_eql_agg (t := 28) (ks := [.int .i64, .int .i64, .int .i64, .int .i64]) (b := _)); (case hx => rfl); (case hy => rfl); (case hl => kernel_rfl); (case ha => kernel_rfl); (case hg => kernel_rfl); (case hfx => rfl); (case hfy => rfl); (case hb => exact HEQ.out))
            | (go_at_call 16; refine Calls.mono (HQ.out _ _ _ _ _ (own_sl (sh := true) ecells (S.get (i := 1) rfl).choose_spec) (own_sl (sh := true) ecells (S.get (i := 4) rfl).choose_spec)) ?_; rintro e wz ⟨rfl, hE⟩; replace S := S.ext (Keep.of_below hE); clear hE)
            | (go_at_call 11; refine Calls.mono (awake8_calls _ _ (S.get (i := 13) rfl).choose_spec) ?_; rintro e wz ⟨rfl, hE⟩; replace S := S.ext (Keep.of_below hE); clear hE)
          go_ret
          exact ⟨rfl, S.below⟩
end Go.Proofs.YtfiiaechippboaaDoor

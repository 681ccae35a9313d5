import Derived.Test.YtjmecncebdbhdaaDoorR21
import Derived.Test.YtjmecncebdbhdaaDoorR26
import Derived.Test.YtjmecncebdbhdaaDoorR32
/- The walk of the law FossilParts. -/
namespace Go.Proofs.YtjmecncebdbhdaaDoor
open Go Go.RowKit Reg Mem

/-- The events ahead of a time, and the others. -/
def early (t : Int) (l : List Event) : List Event := l.filter fun x => decide (x.key.at_ < t)
def late (t : Int) (l : List Event) : List Event := l.filter fun x => !decide (x.key.at_ < t)
theorem parts_perm (t : Int) (l : List Event) : l.Perm (early t l.reverse ++ late t l.reverse) := by
  refine (List.reverse_perm l).symm.trans ?_
  generalize l.reverse = m
  unfold early late
  induction m with
  | nil => exact .refl _
  | cons x m ih =>
    by_cases h : x.key.at_ < t
    · rw [List.filter_cons_of_pos (by simp [h]), List.filter_cons_of_neg (by simp [h])]; exact ih.cons x
    · rw [List.filter_cons_of_neg (by simp [h]), List.filter_cons_of_pos (by simp [h])]
      exact (ih.cons x).trans List.perm_middle.symm
theorem parts_ord (t : Int) (l m : List Event) : ∀ x ∈ early t l, ∀ y ∈ late t m, x.key.at_ < y.key.at_ := by
  intro x hx y hy
  have h1 := (List.mem_filter.1 hx).2
  have h2 := (List.mem_filter.1 hy).2
  simp only [decide_eq_true_eq, Bool.not_eq_true', decide_eq_false_iff_not] at h1 h2
  omega
theorem parts_fine {n : Nat} {t0 t1 : Int} {l : List Event} (h : Fine n 0 t1 l) (h0 : 0 ≤ t0) (h1 : t0 ≤ t1) : Fine n 0 t0 (early t0 l.reverse) ∧ Fine n t0 t1 (late t0 l.reverse) := by
  have hm : ∀ x, x ∈ l.reverse → x ∈ l := fun x hx => List.mem_reverse.1 hx
  have hd : dupB l.reverse = false := by rw [dup_perm (List.reverse_perm l)]; exact h.once
  have top := h.top
  refine ⟨⟨h0, by omega, fun x hx => ?_, fun x hx => h.dsts x (hm x (List.mem_filter.1 hx).1), dup_sub List.filter_sublist hd⟩, ⟨h1, h.top, fun x hx => ?_, fun x hx => h.dsts x (hm x (List.mem_filter.1 hx).1), dup_sub List.filter_sublist hd⟩⟩
  · have h2 := (List.mem_filter.1 hx).2
    have h3 := h.times x (hm x (List.mem_filter.1 hx).1)
    simp only [decide_eq_true_eq] at h2
    omega
  · have h2 := (List.mem_filter.1 hx).2
    have h3 := h.times x (hm x (List.mem_filter.1 hx).1)
    simp only [Bool.not_eq_true', decide_eq_false_iff_not] at h2
    omega
theorem early_snoc (t : Int) (l : List Event) (x : Event) : early t (l ++ [x]) = early t l ++ if x.key.at_ < t then [x] else [] := by
  unfold early
  rw [List.filter_append]
  by_cases h : x.key.at_ < t
  · rw [if_pos h, List.filter_cons_of_pos (by simp [h])]; rfl
  · rw [if_neg h, List.filter_cons_of_neg (by simp [h])]; rfl
theorem late_snoc (t : Int) (l : List Event) (x : Event) : late t (l ++ [x]) = late t l ++ if x.key.at_ < t then [] else [x] := by
  unfold late
  rw [List.filter_append]
  by_cases h : x.key.at_ < t
  · rw [if_pos h, List.filter_cons_of_neg (by simp [h])]; rfl
  · rw [if_neg h, List.filter_cons_of_pos (by simp [h])]; rfl
theorem runs_len (c : Cfg) : ∀ (gs : List (Int × List Event)) (ss : List State), (runs c gs ss).1.length = ss.length
  | [], _ => rfl
  | g :: gs, ss => by simp only [runs]; rw [runs_len c gs, runL_len]
theorem com_len (c : Cfg) (g : LogE) (t : Int) (l : List Event) : (comL c g t l).ss.length = g.ss.length := runs_len c _ _
/-- How much a commit is, at most. -/
theorem times_small2 {c : Cfg} (hc : cfgE c = 0) {l : List Event} (hd : ∀ x ∈ l, 0 ≤ x.dst ∧ x.dst < c.lps.length) (ss : List State) :
    (timesL c (sortT l) ss).2.length ≤ l.length ∧ ∀ b ∈ (timesL c (sortT l) ss).2, b.ins.length ≤ l.length ∧ b.sent.length ≤ 8 * l.length := by
  obtain ⟨h1, _, _, h4⟩ := times_runs c _ (sortT l) ss (Nat.le_refl _) (sortT_up l) (fun x hx => hd x ((sortT_perm l).mem_iff.1 hx))
  have hb : ∀ b ∈ (timesL c (sortT l) ss).2, 0 < b.ins.length ∧ ∃ s, batchC c b.lp s b.ins = (b.thn, b.sent) := fun b hb => by
    obtain ⟨k, hk, e⟩ := List.mem_iff_getElem.1 hb
    obtain ⟨_, _, g3, _, _, g6⟩ := h1.each k b (by rw [List.getElem?_eq_getElem hk, e])
    exact ⟨g3, _, g6⟩
  have hpl := h4.length_eq
  rw [sortT_len] at hpl
  refine ⟨by have := flat_len fun b h => (hb b h).1; omega, fun b h => ?_⟩
  have hi : b.ins.length ≤ l.length := by have := (flat_sub h).length_le; omega
  obtain ⟨_, s, hs⟩ := hb b h
  have g1 := batch_len c b.lp s b.ins (cfg_isfine hc).sizes.2.2.2.2.1
  rw [hs] at g1
  have g3 : c.fan * (b.ins.length : Int) ≤ 8 * (b.ins.length : Int) := Int.mul_le_mul_of_nonneg_right (cfg_isfine hc).sizes.2.2.2.2.2 (by omega)
  have g4 : (b.sent.length : Int) ≤ 8 * (b.ins.length : Int) := Int.le_trans g1 g3
  exact ⟨hi, by omega⟩
theorem parts_done (c : Cfg) (t0 t1 : Int) (l : List Event) :
    (timesL c (sortT (early t0 l.reverse)) (newL c).ss).2 ++ (timesL c (sortT (late t0 l.reverse)) (comL c (newL c) t0 (early t0 l.reverse)).ss).2 = (timesL c (sortT l) (newL c).ss).2 := by
  have h := com_parts c (newL c) t0 t1 (parts_perm t0 l) (fun x hx y hy => parts_ord t0 l.reverse l.reverse x hx y hy)
  have h2 := congrArg LogE.done h
  simpa [comL, newL] using h2
def PRel (L : List Asn) (t0 : Int) (l : List Event) (w : World) (v1 v2 i : Value) (wr : World) : Prop :=
  ∃ (z : Int) (j : Nat) (le ll : List Event), j ≤ l.length ∧ i = .int .i64 z ∧ Hid (z + 1 = j) ∧ Hid (le = early t0 (l.drop j).reverse) ∧ Hid (ll = late t0 (l.drop j).reverse) ∧ le.length ≤ 40 ∧ ll.length ≤ 40 ∧
    St (fun _ => False) w wr (Mem.Own 52 Event.cells 7 v1 le :: Mem.Own 52 Event.cells 7 v2 ll :: L)
theorem drop_rev {l : List Event} {k : Nat} {x : Event} (h : l[k]? = some x) : (l.drop k).reverse = (l.drop (k + 1)).reverse ++ [x] := by
  obtain ⟨h1, rfl⟩ := List.getElem?_eq_some_iff.1 h
  rw [List.drop_eq_getElem_cons h1, List.reverse_cons]
set_option maxRecDepth 100000 in
set_option maxHeartbeats 16000000 in
theorem fossilParts_calls (vs hs : List Value) (c : Cfg) (t0 t1 : Int) (v : Value) (l : List Event) (w : World) (F F2 F3 : Nat → Prop) (h : (CfgA true vs hs c).at_ w F) (hw : Wide c) (hwb : WideB c) (h2 : (Sl true Event.cells 7 v l).at_ w F2) (hlen : l.length ≤ 9223372036854775807) (ht : Tab.at_ w F3) :
    Calls Tryd.prog 4 #[.agg vs.toArray, .agg #[.int .i64 t0, .int .i64 t1], v] w fun r w' => r = .returned (.bool true) ∧ Below w.heap.size w w' := by
  have S : St (fun _ => False) w w [CfgA true vs hs c, Sl true Event.cells 7 v l, Tab] := (((St.init _ w).share rfl rfl ht).share (A := Sl true Event.cells 7 v l) rfl rfl h2).share rfl rfl h
  clear h h2 ht
  obtain ⟨ad, cp, rfl, _⟩ := (S.sl 1 rfl).elim fun _ h => h.form
  obtain ⟨aP, cP, aL, cL, aS, cS, rfl, _, _⟩ := S.cfg 0 rfl
  have HMd := Lib.hid fun w F F2 h ht => made_calls [.slice aP c.programs.length cP, .slice aL c.lps.length cL, .slice aS c.starts.length cS, .int .i64 c.fin, .int .i64 c.fuel, .int .i64 c.fan] hs c w F F2 h hw hwb ht
  clear hw hwb
  go_enter Tryd.func4, Tryd.ntmps4
  go_wp2_with first | ((with_reducible apply wps_boxa (E := 26) S); (case hx => rfl); clear S; intro bx wz S) | ((with_reducible apply wps_boxa (E := 55) S); (case hx => rfl); clear S; intro bt wz S) | ((with_reducible apply wps_loada (T := 26) (k := 6) S 1); (case hx | hi => rfl); (case hk => exact Nat.le_of_ble_eq_true rfl); (case hT => decide +kernel))
  refine Calls.mono (HMd.out _ _ _ (S.get (i := 2) rfl).choose_spec (S.get (i := 4) rfl).choose_spec) ?_
  clear HMd
  rintro r wz ⟨pv, vs2, hs2, rfl, (⟨hm, rfl, T⟩ | ⟨hm, R, vs3, hs3, rfl, T⟩)⟩
  · replace S := ((S.join T rfl).cfgShare 0 rfl).pick [0, 1, 2, 3, 4, 5] rfl
    repeat (first | simp only at S | simp only [pick] at S | simp only [nth] at S | simp only [List.set_cons_succ] at S | simp only [List.set_cons_zero] at S | simp only [List.setIfInBounds_toArray] at S | simp only [setAll] at S | simp only [List.cons_append] at S | simp only [List.nil_append] at S | simp only [List.append_nil] at S)
    clear T hm
    obtain ⟨aP2, cP2, aL2, cL2, aS2, cS2, rfl, _, _⟩ := S.cfg 0 rfl
    go_wp2_with first | go_skip | ((with_reducible apply wps_alloca (E := 37) S); (case hz => exact Tryd.zeroValue37); clear S; intro b8 wz S) | ((with_reducible apply wps_storea (T := 37) S 0 (vs := [.slice aP2 c.programs.length cP2, .slice aL2 c.lps.length cL2, .slice aS2 c.starts.length cS2, .int .i64 c.fin, .int .i64 c.fuel, .int .i64 c.fan]) (m := 6)); (case hx | hy | hi | hm | h1 => rfl); (case hn => exact Nat.le_of_ble_eq_true rfl); (case hT => decide +kernel); clear S; intro wz S; simp only [List.set_cons_zero, List.set_cons_succ, setAll, List.setIfInBounds_toArray] at S) | (go_at_call 6; refine Calls.mono (awake16_calls _ _ (S.get (i := 6) rfl).choose_spec) ?_; rintro e wz ⟨rfl, hE⟩; replace S := S.ext (Keep.of_below hE); clear hE)
    go_ret
    exact ⟨rfl, S.below⟩
  replace S := (((S.join T rfl).modShare 0 rfl).cfgShare 1 rfl).pick [0, 1, 2, 3, 4, 5, 6] rfl
  repeat (first | simp only at S | simp only [pick] at S | simp only [nth] at S | simp only [List.set_cons_succ] at S | simp only [List.set_cons_zero] at S | simp only [List.setIfInBounds_toArray] at S | simp only [setAll] at S | simp only [List.cons_append] at S | simp only [List.nil_append] at S | simp only [List.append_nil] at S)
  clear T
  obtain ⟨aP2, cP2, aL2, cL2, aS2, cS2, rfl, _, _⟩ := S.cfg 1 rfl
  have hfw : fewB c = true ∧ cfgE c = 0 := by unfold madeB at hm; rw [Bool.and_eq_true, decide_eq_true_eq] at hm; exact hm
  have HC := Lib.hid hfw.2
  have hcn : c.lps.length ≤ 32 := by have := (cfg_isfine hfw.2).sizes; unfold sizesOk at this; omega
  clear hm hfw
  by_cases h40 : l.length ≤ 40
  case neg =>
    have f40 : decide ((40 : Int) < l.length) = true := decide_eq_true (by omega)
    go_wp2_with first | go_skip | ((with_reducible apply wps_alloca (E := 37) S); (case hz => exact Tryd.zeroValue37); clear S; intro b8 wz S) | ((with_reducible apply wps_storea (T := 37) S 0 (vs := [.slice aP2 c.programs.length cP2, .slice aL2 c.lps.length cL2, .slice aS2 c.starts.length cS2, .int .i64 c.fin, .int .i64 c.fuel, .int .i64 c.fan]) (m := 6)); (case hx | hy | hi | hm | h1 => rfl); (case hn => exact Nat.le_of_ble_eq_true rfl); (case hT => decide +kernel); clear S; intro wz S; simp only [List.set_cons_zero, List.set_cons_succ, setAll, List.setIfInBounds_toArray] at S) | (go_at_call 6; refine Calls.mono (awake16_calls _ _ (S.get (i := 7) rfl).choose_spec) ?_; rintro e wz ⟨rfl, hE⟩; replace S := S.ext (Keep.of_below hE); clear hE)
    go_ret
    exact ⟨rfl, S.below⟩
  have f40 : decide ((40 : Int) < l.length) = false := decide_eq_false (by omega)
  by_cases hx0 : t0 < 0
  case pos =>
    have fx : decide (t0 < 0) = true := decide_eq_true hx0
    go_wp2_with first | go_skip | ((with_reducible apply wps_alloca (E := 37) S); (case hz => exact Tryd.zeroValue37); clear S; intro b8 wz S) | ((with_reducible apply wps_storea (T := 37) S 0 (vs := [.slice aP2 c.programs.length cP2, .slice aL2 c.lps.length cL2, .slice aS2 c.starts.length cS2, .int .i64 c.fin, .int .i64 c.fuel, .int .i64 c.fan]) (m := 6)); (case hx | hy | hi | hm | h1 => rfl); (case hn => exact Nat.le_of_ble_eq_true rfl); (case hT => decide +kernel); clear S; intro wz S; simp only [List.set_cons_zero, List.set_cons_succ, setAll, List.setIfInBounds_toArray] at S) | ((with_reducible apply wps_load S 3); (case hx | hi | hu => rfl); (case hT => decide +kernel)) | (go_at_call 6; refine Calls.mono (awake16_calls _ _ (S.get (i := 7) rfl).choose_spec) ?_; rintro e wz ⟨rfl, hE⟩; replace S := S.ext (Keep.of_below hE); clear hE)
    go_ret
    exact ⟨rfl, S.below⟩
  have fx0 : decide (t0 < 0) = false := decide_eq_false hx0
  by_cases hx1 : t1 < t0
  case pos =>
    have fx1 : decide (t1 < t0) = true := decide_eq_true hx1
    go_wp2_with first | ((with_reducible apply wps_alloca (E := 37) S); (case hz => exact Tryd.zeroValue37); clear S; intro b8 wz S) | ((with_reducible apply wps_storea (T := 37) S 0 (vs := [.slice aP2 c.programs.length cP2, .slice aL2 c.lps.length cL2, .slice aS2 c.starts.length cS2, .int .i64 c.fin, .int .i64 c.fuel, .int .i64 c.fan]) (m := 6)); (case hx | hy | hi | hm | h1 => rfl); (case hn => exact Nat.le_of_ble_eq_true rfl); (case hT => decide +kernel); clear S; intro wz S; simp only [List.set_cons_zero, List.set_cons_succ, setAll, List.setIfInBounds_toArray] at S) | ((with_reducible apply wps_load S 3); (case hx | hi | hu => rfl); (case hT => decide +kernel)) | (go_at_call 6; refine Calls.mono (awake16_calls _ _ (S.get (i := 7) rfl).choose_spec) ?_; rintro e wz ⟨rfl, hE⟩; replace S := S.ext (Keep.of_below hE); clear hE)
    go_ret
    exact ⟨rfl, S.below⟩
  have fx1 : decide (t1 < t0) = false := decide_eq_false hx1
  go_upto_region 5 with first | ((with_reducible apply wps_alloca (E := 37) S); (case hz => exact Tryd.zeroValue37); clear S; intro b8 wz S) | ((with_reducible apply wps_storea (T := 37) S 0 (vs := [.slice aP2 c.programs.length cP2, .slice aL2 c.lps.length cL2, .slice aS2 c.starts.length cS2, .int .i64 c.fin, .int .i64 c.fuel, .int .i64 c.fan]) (m := 6)); (case hx | hy | hi | hm | h1 => rfl); (case hn => exact Nat.le_of_ble_eq_true rfl); (case hT => decide +kernel); clear S; intro wz S; simp only [List.set_cons_zero, List.set_cons_succ, setAll, List.setIfInBounds_toArray] at S) | ((with_reducible apply wps_load S 3); (case hx | hi | hu => rfl); (case hT => decide +kernel)) | (go_at_call 11; refine Calls.mono (lnew_calls R vs3 hs3 c _ _ (S.get (i := 1) rfl).choose_spec hcn) ?_; rintro e wz ⟨X1, rfl, T⟩; replace S := S.join T rfl; clear T; simp only [List.cons_append, List.nil_append] at S)
  go_upto_region 6 with first | (go_at_call 11; refine Calls.mono (lnew_calls R vs3 hs3 c _ _ (S.get (i := 2) rfl).choose_spec hcn) ?_; rintro e wz ⟨X2, rfl, T⟩; replace S := S.join T rfl; clear T; simp only [List.cons_append, List.nil_append] at S)
  replace S := (S.nil 52 Event.cells 7).nil 52 Event.cells 7
  replace S := S.pick [0, 1, 3, 2, 5, 7, 10, 11] rfl
  simp only [pick, nth] at S
  go_wp2_with first | ((with_reducible apply wps_loada (T := 52) (k := 7) S 0); (case hx | hi => rfl); (case hk => exact Nat.le_of_ble_eq_true rfl); (case hT => decide +kernel))
  go_loopw [13, 14, 15] (fun v1 v2 i wr => PRel [logA X1 R (newL c), logA X2 R (newL c), ModA true 117 R vs3 hs3 c, Blk false bt #[.int .i64 t0, .int .i64 t1] 55, Sl true Event.cells 7 (.slice ad l.length cp) l, Tab] t0 l w v1 v2 i wr) (fun _ _ i _ => (intOf i + 1).toNat)
  case atStart => exact ⟨(l.length : Int) - 1, l.length, [], [], Nat.le_refl _, by go_num, Lib.hid (by omega), Lib.hid (by simp [early]), Lib.hid (by simp [late]), by simp, by simp, S⟩
  case round =>
    clear S
    obtain ⟨z, j, le, ll, hj, rfl, HZ, HLE, HLL, hle, hll, S⟩ := hrel
    obtain ⟨ae, ce, rfl, _⟩ := (S.ownsl ecells 0 rfl).elim fun _ h => h.form
    obtain ⟨al, cl, rfl, _⟩ := (S.ownsl ecells 1 rfl).elim fun _ h => h.form
    by_cases hz : 0 ≤ z
    · obtain ⟨k, rfl⟩ := Int.eq_ofNat_of_zero_le hz
      have hkl : k < l.length := by have := HZ.out; omega
      have HJ : Hid (j = k + 1) := Lib.hid (by have := HZ.out; omega)
      obtain ⟨x, hx⟩ : ∃ x, l[k]? = some x := ⟨_, List.getElem?_eq_getElem hkl⟩
      obtain ⟨R1, o1, rfl⟩ : ∃ R o, ad = some ⟨R, o, none⟩ := (S.sl 6 rfl).elim fun F h => h.head (by omega)
      have hkl2 : (k : Int) < l.length := by omega
      have hll2 : ll.length ≤ l.length - (k + 1) := by rw [HLL.out, HJ.out]; exact Nat.le_trans (List.filter_sublist).length_le (by simp)
      have hle2 : le.length ≤ l.length - (k + 1) := by rw [HLE.out, HJ.out]; exact Nat.le_trans (List.filter_sublist).length_le (by simp)
      have hc1 : le.length < 4294967296 := by omega
      have hc2 : ll.length < 4294967296 := by omega
      by_cases hxt : x.key.at_ < t0
      · have f1 : decide (x.key.at_ < t0) = true := decide_eq_true hxt
        have HLE2 : Hid (le ++ [x] = early t0 (l.drop k).reverse) := Lib.hid (by rw [drop_rev hx, early_snoc, if_pos hxt, HLE.out, HJ.out])
        have HLL2 : Hid (ll = late t0 (l.drop k).reverse) := Lib.hid (by rw [drop_rev hx, late_snoc, if_pos hxt, List.append_nil, HLL.out, HJ.out])
        clear hxt
        have Hx := Lib.hid hx
        clear hx
        go_wp2_with first | ((with_reducible apply wps_loada (T := 52) (k := 7) S 0); (case hx | hi => rfl); (case hk => exact Nat.le_of_ble_eq_true rfl); (case hT => decide +kernel))
        (refine wp_region_w (soft := [0, 1, 2, 3, 4, 5, 6, 7, 8]) S ?hm ?hB ?_); (case hm => kernel_rfl); (case hB => decide +kernel); clear S
        iterate 9
          (with_reducible apply softs_cons)
          (case hw =>
            (with_reducible apply soft_of); (case hi => rfl)
            intro T wz S
            simp only [List.cons_append, List.nil_append] at S
            go_wp2_with first | ((with_reducible apply wps_load_el S 6 (hj := Hx.out) (q := 0) (u := .int .i64 x.key.at_)); (case hx | hi => rfl); (case hn => omega); (case hu => rfl); (case hT => decide +kernel)) | ((with_reducible apply wps_load S 5); (case hx | hi | hu => rfl); (case hT => decide +kernel)) | ((with_reducible refine tot_done ?ht ?_); (case ht => kernel_rfl))
            exact ⟨rfl, S⟩)
          (case hs => exact ⟨_, rfl, by kernel_rfl⟩)
        refine softs_nil ?_
        (with_reducible apply W_done); (case hn => rfl); (case hr => decide +kernel)
        intro wz S
        simp only [List.append_nil] at S
        go_wp2_with first | ((with_reducible apply wps_loada_el S 6 (hj := Hx.out) (q := 0) (vs := [.int .i64 x.key.at_, .int .i64 x.key.src, .int .i64 x.key.sent, .int .i64 x.key.no, .int .i64 x.dst, .int .i64 x.kind, .int .i64 x.data]) (m := 7)); (case hx | hi => rfl); (case hn => omega); (case hm | hv => rfl); (case hT => decide +kernel)) | ((with_reducible apply wps_build1a (T := 29) (E := 52) S); (case hx => rfl); (case hr => intro w; kernel_rfl); clear S; intro bz wz S) | ((with_reducible apply wps_append1 elem_Ev ecells eone (by decide) S 1 (j := 0) (e := x)); (case hx | hy | hi | hj | he => rfl); (case hl => first | omega | (simp; omega)); clear S; intro az nz cz wz hnz S; simp only [List.set_cons_succ, List.set_cons_zero] at S)
        go_roundw
        case rel => exact ⟨(k : Int) - 1, k, le ++ [x], ll, by omega, by go_num, Lib.hid (by omega), HLE2, HLL2, by rw [List.length_append]; show le.length + 1 ≤ 40; omega, hll, S.pick [1, 2, 3, 4, 5, 6, 7, 8] rfl⟩
        case measure => first | (simp [intOf]; done) | (simp [intOf]; omega)
      · have f1 : decide (x.key.at_ < t0) = false := decide_eq_false hxt
        have HLE2 : Hid (le = early t0 (l.drop k).reverse) := Lib.hid (by rw [drop_rev hx, early_snoc, if_neg hxt, List.append_nil, HLE.out, HJ.out])
        have HLL2 : Hid (ll ++ [x] = late t0 (l.drop k).reverse) := Lib.hid (by rw [drop_rev hx, late_snoc, if_neg hxt, HLL.out, HJ.out])
        clear hxt
        have Hx := Lib.hid hx
        clear hx
        go_wp2_with first | ((with_reducible apply wps_loada (T := 52) (k := 7) S 0); (case hx | hi => rfl); (case hk => exact Nat.le_of_ble_eq_true rfl); (case hT => decide +kernel))
        (refine wp_region_w (soft := [0, 1, 2, 3, 4, 5, 6, 7, 8]) S ?hm ?hB ?_); (case hm => kernel_rfl); (case hB => decide +kernel); clear S
        iterate 9
          (with_reducible apply softs_cons)
          (case hw =>
            (with_reducible apply soft_of); (case hi => rfl)
            intro T wz S
            simp only [List.cons_append, List.nil_append] at S
            go_wp2_with first | ((with_reducible apply wps_load_el S 6 (hj := Hx.out) (q := 0) (u := .int .i64 x.key.at_)); (case hx | hi => rfl); (case hn => omega); (case hu => rfl); (case hT => decide +kernel)) | ((with_reducible apply wps_load S 5); (case hx | hi | hu => rfl); (case hT => decide +kernel)) | ((with_reducible refine tot_done ?ht ?_); (case ht => kernel_rfl))
            exact ⟨rfl, S⟩)
          (case hs => exact ⟨_, rfl, by kernel_rfl⟩)
        refine softs_nil ?_
        (with_reducible apply W_done); (case hn => rfl); (case hr => decide +kernel)
        intro wz S
        simp only [List.append_nil] at S
        go_wp2_with first | ((with_reducible apply wps_loada_el S 6 (hj := Hx.out) (q := 0) (vs := [.int .i64 x.key.at_, .int .i64 x.key.src, .int .i64 x.key.sent, .int .i64 x.key.no, .int .i64 x.dst, .int .i64 x.kind, .int .i64 x.data]) (m := 7)); (case hx | hi => rfl); (case hn => omega); (case hm | hv => rfl); (case hT => decide +kernel)) | ((with_reducible apply wps_build1a (T := 29) (E := 52) S); (case hx => rfl); (case hr => intro w; kernel_rfl); clear S; intro bz wz S) | ((with_reducible apply wps_append1 elem_Ev ecells eone (by decide) S 2 (j := 0) (e := x)); (case hx | hy | hi | hj | he => rfl); (case hl => first | omega | (simp; omega)); clear S; intro az nz cz wz hnz S; simp only [List.set_cons_succ, List.set_cons_zero] at S)
        go_roundw
        case rel => exact ⟨(k : Int) - 1, k, le, ll ++ [x], by omega, by go_num, Lib.hid (by omega), HLE2, HLL2, hle, by rw [List.length_append]; show ll.length + 1 ≤ 40; omega, S.pick [1, 2, 3, 4, 5, 6, 7, 8] rfl⟩
        case measure => first | (simp [intOf]; done) | (simp [intOf]; omega)
    · obtain rfl : j = 0 := by have := HZ.out; omega
      have hz2 : z < 0 := by omega
      have HLE2 : Hid (le = early t0 l.reverse) := Lib.hid (by rw [HLE.out, List.drop_zero])
      have HLL2 : Hid (ll = late t0 l.reverse) := Lib.hid (by rw [HLL.out, List.drop_zero])
      clear HLE HLL HZ hj hz
      replace S := (S.freeze true 0 ecells rfl).freeze true 1 ecells rfl
      simp only [List.set_cons_zero, List.set_cons_succ] at S
      have hnl : (newL c).ss.length = c.lps.length := by simp [newL]
      by_cases hw1 : wrongL c.lps.length 0 t1 l = 0
      case neg =>
        obtain ⟨e0, he0⟩ : ∃ e, wrongL c.lps.length 0 t1 l = e := ⟨_, rfl⟩
        have HW : Hid (∀ (w : World) (F : Nat → Prop) (S0 : St F w w [logA X1 R (newL c), Sl true Event.cells 7 (.slice ad l.length cp) l]), Calls Tryd.prog 12 #[.pointer (some ⟨X1, 0, none⟩), .int .i64 t1, .slice ad l.length cp] w fun e w' => e = .returned (.tuple #[.slice none 0 0, .int .i64 e0]) ∧ St F w w' [logA X1 R (newL c)]) :=
          Lib.hid fun w F S0 => commit_wrong X1 R (newL c) t1 _ l w F S0 (by omega) e0 (by rw [hnl]; exact he0) (by rw [← he0]; exact hw1)
        have HTm : Hid (∀ (w : World) (F : Nat → Prop) (h : (logA X1 R (newL c)).at_ w F), Calls Tryd.prog 13 #[.pointer (some ⟨X1, 0, none⟩)] w fun e w' => e = .returned (.int .i64 0) ∧ Below w.heap.size w w') := Lib.hid fun w F h => ltime_calls X1 R (newL c) w F h
        have HLn : Hid (∀ (w : World) (F : Nat → Prop) (h : (logA X1 R (newL c)).at_ w F), Calls Tryd.prog 14 #[.pointer (some ⟨X1, 0, none⟩)] w fun e w' => e = .returned (.int .i64 0) ∧ Below w.heap.size w w') := Lib.hid fun w F h => llen_calls X1 R (newL c) w F h
        have f1 : (e0 != 0) = true := by rw [← he0]; simpa using hw1
        clear he0 hw1 hnl
        go_wp2_with first | ((with_reducible apply wps_load S 5); (case hx | hi | hu => rfl); (case hT => decide +kernel)) | (go_at_call 12; obtain ⟨Fz, hF, hBk⟩ := S.lend [2] [6] [3, 4, 5, 6, 7] rfl rfl rfl; simp only [List.cons_append, List.nil_append, pick, nth] at hF hBk; refine Calls.mono (HW.out _ _ hF) ?_; rintro e wz ⟨rfl, T⟩; replace S := hBk _ _ T rfl; clear hBk hF T; simp only [List.cons_append, List.nil_append] at S) | (go_at_call 13; refine Calls.mono (HTm.out _ _ (S.get (i := 0) rfl).choose_spec) ?_; rintro e wz ⟨rfl, hE⟩; replace S := S.ext (Keep.of_below hE); clear hE) | (go_at_call 14; refine Calls.mono (HLn.out _ _ (S.get (i := 0) rfl).choose_spec) ?_; rintro e wz ⟨rfl, hE⟩; replace S := S.ext (Keep.of_below hE); clear hE) | (go_at_call 6; refine Calls.mono (awake16_calls _ _ (S.get (i := 5) rfl).choose_spec) ?_; rintro e wz ⟨rfl, hE⟩; replace S := S.ext (Keep.of_below hE); clear hE)
        go_ret
        exact ⟨rfl, S.below⟩
      case pos =>
        have hf := wrongL_fine.1 hw1
        obtain ⟨hfe, hfl⟩ := parts_fine (l := l) hf (by omega) (by omega)
        rw [← HLE2.out] at hfe
        rw [← HLL2.out] at hfl
        have hcp := com_parts c (newL c) t0 t1 (parts_perm t0 l) (fun x hx y hy => parts_ord t0 l.reverse l.reverse x hx y hy)
        have hpd := parts_done c t0 t1 l
        rw [← HLE2.out, ← HLL2.out] at hcp hpd
        have hsm := times_small2 HC.out hf.dsts (newL c).ss
        have hsme := times_small2 HC.out hfe.dsts (newL c).ss
        have HCA := Lib.hid fun (w : World) (F : Nat → Prop) (S0 : St F w w [logA X1 R (newL c), Sl true Event.cells 7 (.slice ad l.length cp) l, ModA true 117 R vs3 hs3 c, Tab]) => commit_calls X1 R vs3 hs3 c (newL c) t1 (.slice ad l.length cp) l w F S0 HC.out (by omega) hnl (Int.le_refl _) (by simp [newL]) hf
        have HCB := Lib.hid fun (w : World) (F : Nat → Prop) (S0 : St F w w [logA X2 R (newL c), Sl true Event.cells 7 (.slice ae le.length ce) le, ModA true 117 R vs3 hs3 c, Tab]) => commit_calls X2 R vs3 hs3 c (newL c) t0 (.slice ae le.length ce) le w F S0 HC.out (by omega) hnl (Int.le_refl _) (by simp [newL]) hfe
        have HCD := Lib.hid fun (w : World) (F : Nat → Prop) (S0 : St F w w [logA X2 R (comL c (newL c) t0 le), Sl true Event.cells 7 (.slice al ll.length cl) ll, ModA true 117 R vs3 hs3 c, Tab]) => commit_calls X2 R vs3 hs3 c (comL c (newL c) t0 le) t1 (.slice al ll.length cl) ll w F S0 HC.out (by omega) (by rw [com_len]; exact hnl) (by show 0 ≤ t0; omega) (by show ((newL c).done ++ _).length ≤ 65536; simp only [newL, List.nil_append] at hsme ⊢; have := hsme.1; omega) hfl
        rw [hcp] at HCD
        have hGs : (comL c (newL c) t1 l).ss.length ≤ 65536 := by rw [com_len, hnl]; omega
        have hGd : (comL c (newL c) t1 l).done = (timesL c (sortT l) (newL c).ss).2 := by simp [comL, newL]
        have hGn : (comL c (newL c) t1 l).done.length ≤ 300 := by rw [hGd]; have := hsm.1; omega
        have hGz : ∀ b ∈ (comL c (newL c) t1 l).done, b.ins.length ≤ 65536 ∧ b.sent.length ≤ 65536 := fun b hb => by rw [hGd] at hb; have := hsm.2 b hb; omega
        have hGw : ∀ b ∈ (comL c (newL c) t1 l).done, b.ins.length ≤ 4294967296 ∧ b.sent.length ≤ 4294967296 := fun b hb => by have := hGz b hb; omega
        rw [← hpd] at hGd
        rw [← hpd] at HCA
        generalize comL c (newL c) t1 l = G at *
        generalize (timesL c (sortT ll) (comL c (newL c) t0 le).ss).2 = bd at *
        generalize comL c (newL c) t0 le = g1 at *
        generalize (timesL c (sortT le) (newL c).ss).2 = bb at *
        have HGD := Lib.hid hGd
        have HGN := Lib.hid hGn
        have HGZ := Lib.hid hGz
        have HGW := Lib.hid hGw
        have HBN : Hid ((bb ++ bd).length ≤ 300) := Lib.hid (by rw [← hGd]; exact hGn)
        clear hpd hcp hsm hsme hf hfe hfl hw1 hGd hGn hGz hGw hnl
        go_upto_region 19 with first | ((with_reducible apply wps_load S 5); (case hx | hi | hu => rfl); (case hT => decide +kernel)) | (go_at_call 12; obtain ⟨Fz, hF, hBk⟩ := S.lend [2] [6, 4, 7] [0, 1, 3, 4, 5, 6, 7] rfl rfl rfl; simp only [List.cons_append, List.nil_append, pick, nth] at hF hBk; refine Calls.mono (HCA.out _ _ hF) ?_; rintro e wz ⟨aa, ca, la, rfl, hla, T⟩; (have hq1 : (bb ++ bd).length = la.length := (by rw [← hla, List.length_map])); rw [hq1] at T ⊢; clear hq1; have HLA := Lib.hid hla; clear hla; replace S := hBk _ _ T rfl; clear hBk hF T; simp only [List.cons_append, List.nil_append] at S)
        go_upto_region 20 with first | ((with_reducible apply wps_load S 8); (case hx | hi | hu => rfl); (case hT => decide +kernel)) | (go_at_call 12; obtain ⟨Fz, hF, hBk⟩ := S.lend [6] [4, 7, 10] [0, 1, 2, 3, 5, 7, 8, 9, 10] rfl rfl rfl; simp only [List.cons_append, List.nil_append, pick, nth] at hF hBk; refine Calls.mono (HCB.out _ _ hF) ?_; rintro e wz ⟨ab, cb, lb, rfl, hlb, T⟩; (have hq1 : bb.length = lb.length := (by rw [← hlb, List.length_map])); rw [hq1] at T ⊢; clear hq1; have HLB := Lib.hid hlb; clear hlb; replace S := hBk _ _ T rfl; clear hBk hF T; simp only [List.cons_append, List.nil_append] at S)
        go_upto_region 21 with first | ((with_reducible apply wps_load S 10); (case hx | hi | hu => rfl); (case hT => decide +kernel)) | (go_at_call 12; obtain ⟨Fz, hF, hBk⟩ := S.lend [0] [8, 9, 12] [1, 2, 3, 4, 5, 6, 7, 9, 10, 11, 12] rfl rfl rfl; simp only [List.cons_append, List.nil_append, pick, nth] at hF hBk; refine Calls.mono (HCD.out _ _ hF) ?_; rintro e wz ⟨ad3, cd, ld, rfl, hld, T⟩; (have hq1 : bd.length = ld.length := (by rw [← hld, List.length_map])); rw [hq1] at T ⊢; clear hq1; have HLD := Lib.hid hld; clear hld; replace S := hBk _ _ T rfl; clear hBk hF T; simp only [List.cons_append, List.nil_append] at S)
        have hla3 : la.length ≤ 300 := by have := HBN.out; rw [← HLA.out, List.length_map] at this; exact this
        have hlbd : lb.length + ld.length ≤ 300 := by have := HBN.out; rw [List.length_append, ← HLB.out, ← HLD.out, List.length_map, List.length_map] at this; exact this
        have HLK : Hid (la.map (·.b) = (lb ++ ld).map (·.b)) := Lib.hid (by rw [HLA.out, List.map_append, HLB.out, HLD.out])
        have HSZ : Hid (∀ x ∈ la, x.b.ins.length ≤ 65536 ∧ x.b.sent.length ≤ 65536) := Lib.hid fun x hx => HGZ.out x.b (by rw [HGD.out, ← HLA.out]; exact List.mem_map.2 ⟨x, hx, rfl⟩)
        clear HLA HLB HLD
        replace S := S.freeze true 1 bvcells rfl
        simp only [List.set_cons_zero, List.set_cons_succ] at S
        have hap : lb.length + ld.length ≤ 4294967296 := by omega
        go_upto_region 22 with first | ((with_reducible apply wps_appends elem_Bat bvcells bvone (by decide) S 4 (j := 1)); (case hx | hy | hi | hj => rfl); (case hl => first | omega | (simp; omega)); clear S; intro az nz cz wz hnz S; simp only [List.set_cons_succ, List.set_cons_zero] at S)
        replace S := S.pick [5, 2, 6, 3, 4, 0, 7, 8, 9, 10, 14] rfl
        simp only [pick, nth] at S
        replace S := S.slsAppend.pick [1, 2, 0, 3, 4, 5, 6, 7, 8, 9] rfl
        simp only [pick, nth] at S
        replace S := S.slsAppend
        rw [← List.map_append, ← List.map_append, ← List.map_append, ← List.map_append] at S
        have hlk : (lb ++ ld).length ≤ 300 := by rw [List.length_append]; exact hlbd
        generalize lb ++ ld = lk at *
        clear hap hlbd
        have hGn := HGN.out
        go_wp2_with first | (go_at_call 15; have hcz := btseq_calls _ _ la lk _ _ _ _ _ _ _ (own_sl (sh := true) bvcells (S.get (i := 5) rfl).choose_spec) (own_sl (sh := true) bvcells (S.get (i := 2) rfl).choose_spec) (S.get (i := 6) rfl).choose_spec (S.get (i := 7) rfl).choose_spec (S.get (i := 1) rfl).choose_spec (S.get (i := 0) rfl).choose_spec HLK.out (by omega) HSZ.out; (with_reducible refine Calls.mono hcz ?_); clear hcz; rintro e wz ⟨rfl, hE⟩; replace S := S.ext (Keep.of_below hE); clear hE) | (go_at_call 17; have hcz := lstates_calls X1 R G _ _ (S.get (i := 4) rfl).choose_spec hGs; (with_reducible refine Calls.mono hcz ?_); clear hcz; rintro e wz ⟨adg, cg, rfl, T⟩; replace S := S.join T rfl; clear T; simp only [List.cons_append, List.nil_append] at S) | (go_at_call 17; have hcz := lstates_calls X2 R G _ _ (S.get (i := 4) rfl).choose_spec hGs; (with_reducible refine Calls.mono hcz ?_); clear hcz; rintro e wz ⟨adh, ch, rfl, T⟩; replace S := S.join T rfl; clear T; simp only [List.cons_append, List.nil_append] at S) | (go_at_call 16; have hcz := stseq_calls _ _ G.ss _ _ _ (own_sl (sh := true) sacells (S.get (i := 1) rfl).choose_spec) (own_sl (sh := true) sacells (S.get (i := 0) rfl).choose_spec) hGs; (with_reducible refine Calls.mono hcz ?_); clear hcz; rintro e wz ⟨rfl, hE⟩; replace S := S.ext (Keep.of_below hE); clear hE) | (go_at_call 13; have hcz := ltime_calls X1 R G _ _ (S.get (i := 6) rfl).choose_spec; (with_reducible refine Calls.mono hcz ?_); clear hcz; rintro e wz ⟨rfl, hE⟩; replace S := S.ext (Keep.of_below hE); clear hE) | (go_at_call 13; have hcz := ltime_calls X2 R G _ _ (S.get (i := 5) rfl).choose_spec; (with_reducible refine Calls.mono hcz ?_); clear hcz; rintro e wz ⟨rfl, hE⟩; replace S := S.ext (Keep.of_below hE); clear hE) | (go_at_call 18; have hcz := listed_calls X1 R G _ _ (S.get (i := 6) rfl).choose_spec hGn HGW.out; (with_reducible refine Calls.mono hcz ?_); clear hcz; rintro e wz ⟨ap, cp1, l1, rfl, hl1, T⟩; have HL1 := Lib.hid hl1; clear hl1; replace S := S.join T rfl; clear T; simp only [List.cons_append, List.nil_append] at S) | (go_at_call 18; have hcz := listed_calls X2 R G _ _ (S.get (i := 8) rfl).choose_spec hGn HGW.out; (with_reducible refine Calls.mono hcz ?_); clear hcz; rintro e wz ⟨aq, cq1, l2, rfl, hl2, T⟩; have HL2 := Lib.hid hl2; clear hl2; replace S := S.join T rfl; clear T; simp only [List.cons_append, List.nil_append] at S) | (go_at_call 15; have hcz := btseq_calls _ _ l1 l2 _ _ _ _ _ _ _ (own_sl (sh := true) bvcells (S.get (i := 3) rfl).choose_spec) (own_sl (sh := true) bvcells (S.get (i := 0) rfl).choose_spec) (S.get (i := 4) rfl).choose_spec (S.get (i := 5) rfl).choose_spec (S.get (i := 1) rfl).choose_spec (S.get (i := 2) rfl).choose_spec (HL1.out.trans HL2.out.symm) (by have := congrArg List.length HL1.out; rw [List.length_map] at this; omega) (fun x hx => HGZ.out x.b (by rw [← HL1.out]; exact List.mem_map.2 ⟨x, hx, rfl⟩)); (with_reducible refine Calls.mono hcz ?_); clear hcz; rintro e wz ⟨rfl, hE⟩; replace S := S.ext (Keep.of_below hE); clear hE) | (go_at_call 6; refine Calls.mono (awake16_calls _ _ (S.get (i := 16) rfl).choose_spec) ?_; rintro e wz ⟨rfl, hE⟩; replace S := S.ext (Keep.of_below hE); clear hE)
        go_ret
        exact ⟨rfl, S.below⟩
end Go.Proofs.YtjmecncebdbhdaaDoor

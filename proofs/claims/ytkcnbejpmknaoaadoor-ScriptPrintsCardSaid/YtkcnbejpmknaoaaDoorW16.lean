import Derived.Test.YtkcnbejpmknaoaaDoorW15
/- The walk of the reference's Print (chapter 21). -/
namespace Go.Proofs.YtkcnbejpmknaoaaDoor
open Go Go.RowKit Reg Mem

def JpRel (w : World) (l : List DoE) (v : Value) (i : Value) (wr : World) : Prop :=
  ∃ k : Nat, k ≤ l.length ∧ i = .int .i64 k ∧ Hid (∀ j x, j < k → l[j]? = some x → mayE x = true) ∧ St (fun _ => False) w wr [Sl true docell 3 v l]
def JpRel2 (w : World) (l : List DoE) (v : Value) (tx : List UInt8) (s n i : Value) (wr : World) : Prop :=
  ∃ (k c : Nat) (T : List UInt8), k ≤ l.length ∧ i = .int .i64 k ∧ n = .int .i64 c ∧ s = strV T ∧ c ≤ k ∧ c ≤ 4094 ∧ Hid (tx = T ++ rowsGo c (l.drop k)) ∧ St (fun _ => False) w wr [Sl true docell 3 v l]
theorem may_cases {d : DoE} (h : mayE d = false) : (decide (d.what < 0) = true) ∨ (decide (d.what < 0) = false ∧ decide (3 < d.what) = true) ∨ (decide (d.what < 0) = false ∧ decide (3 < d.what) = false ∧ decide ((toldE d).a < 0) = true) ∨ (decide (d.what < 0) = false ∧ decide (3 < d.what) = false ∧ decide ((toldE d).a < 0) = false ∧ decide (4095 < (toldE d).a) = true) ∨ (decide (d.what < 0) = false ∧ decide (3 < d.what) = false ∧ decide ((toldE d).a < 0) = false ∧ decide (4095 < (toldE d).a) = false ∧ decide ((toldE d).b < 0) = true) ∨ (decide (d.what < 0) = false ∧ decide (3 < d.what) = false ∧ decide ((toldE d).a < 0) = false ∧ decide (4095 < (toldE d).a) = false ∧ decide ((toldE d).b < 0) = false ∧ decide (4095 < (toldE d).b) = true) := by
  unfold mayE at h
  simp only [Bool.and_eq_false_iff, decide_eq_false_iff_not] at h
  simp only [decide_eq_false_iff_not, decide_eq_true_eq]
  omega
theorem may_not {d : DoE} (h : mayE d = true) : decide (d.what < 0) = false ∧ decide (3 < d.what) = false ∧ decide ((toldE d).a < 0) = false ∧ decide (4095 < (toldE d).a) = false ∧ decide ((toldE d).b < 0) = false ∧ decide (4095 < (toldE d).b) = false := by
  have := may_of h
  simp only [decide_eq_false_iff_not]
  omega
set_option maxRecDepth 100000 in
set_option maxHeartbeats 16000000 in
theorem rprint_calls (lv : Value) (l : List DoE) (w : World) (F : Nat → Prop) (h : (Sl true docell 3 lv l).at_ w F) (hn : l.length ≤ 65536) :
    Calls Tryd.prog 12 #[lv] w fun e w' => e = .returned (.tuple #[strV (printE l).1, .int .i64 (printE l).2]) ∧ Below w.heap.size w w' := by
  have S : St (fun _ => False) w w [Sl true docell 3 lv l] := (St.init _ w).share (A := Sl true docell 3 lv l) rfl rfl h
  clear h
  obtain ⟨ad, cp, rfl, _⟩ := (S.sl 0 rfl).elim fun _ h => h.form
  have HP : Hid (printE l = if l.all mayE = true then (if l.length ≤ 4096 then (rowsGo 0 l, 0) else ([], 11)) else ([], 10)) := Lib.hid rfl
  generalize printE l = q at *
  go_enter Tryd.func12, Tryd.ntmps12
  go_upto_region 2 with first | go_skip | ((with_reducible refine wpList_skip ?hw ?_); (case hw => with_unfolding_all rfl); simp only [Act.put, List.setIfInBounds_toArray, List.set_cons_succ, List.set_cons_zero]) | ((with_reducible refine tot_done ?ht ?_); (case ht => kernel_rfl)) | ((with_reducible apply wps_text S); (case hm => kernel_rfl); (case hB => decide +kernel); clear S; intro wz S) | ((with_reducible apply wps_alloca (E := 39) S); (case hz => exact Tryd.zeroValue39); clear S; intro bz wz S) | ((with_reducible apply wps_load S 0); (case hx | hi | hu => rfl); (case hT => decide +kernel)) | ((with_reducible apply wps_loada (T := 39) (k := 3) S 0); (case hx | hi => rfl); (case hk => exact Nat.le_of_ble_eq_true rfl); (case hT => decide +kernel))
  go_loopw [4] (fun i wr => JpRel w l (.slice ad l.length cp) i wr) (fun i _ => l.length - (intOf i).toNat)
  case atStart => exact ⟨0, Nat.zero_le _, rfl, fun j x hj => by omega, S⟩
  case round =>
    clear S
    obtain ⟨k, hk, rfl, HM, S⟩ := hrel
    by_cases hlt : k < l.length
    · have hlt2 : (k : Int) < l.length := by omega
      obtain ⟨x, hx⟩ : ∃ x, l[k]? = some x := ⟨_, List.getElem?_eq_getElem hlt⟩
      obtain ⟨R, o, rfl⟩ : ∃ R o, ad = some ⟨R, o, none⟩ := (S.sl 0 rfl).elim fun F h => h.head (by omega)
      have HX := Lib.hid hx
      have HC := Lib.hid (fun w => rtold_calls x w)
      have htw : (toldE x).what = x.what := rfl
      cases hm : mayE x with
      | false =>
        have HR : Hid (q = ([], 10)) := Lib.hid (by rw [HP.out, if_neg]; intro e; rw [List.all_eq_true.1 e x (List.mem_of_getElem? hx)] at hm; cases hm)
        have hc := may_cases hm
        rw [← htw] at hc
        clear hm hx HM HP htw
        generalize toldE x = t at *
        obtain ⟨tw, ta, tb⟩ := t
        simp only at hc HC
        rcases hc with g1 | ⟨g1, g2⟩ | ⟨g1, g2, g3⟩ | ⟨g1, g2, g3, g4⟩ | ⟨g1, g2, g3, g4, g5⟩ | ⟨g1, g2, g3, g4, g5, g6⟩
        all_goals
          as_aux_lemma =>
            go_wp2_with first | go_skip | ((with_reducible refine wpList_skip ?hw ?_); (case hw => with_unfolding_all rfl); simp only [Act.put, List.setIfInBounds_toArray, List.set_cons_succ, List.set_cons_zero]) | ((with_reducible apply wps_loada_el S 0 (hj := HX.out) (q := 0) (vs := [.int .i64 x.what, .int .i64 x.a, .int .i64 x.b]) (m := 3)); (case hx | hi => rfl); (case hn => omega); (case hm | hv => rfl); (case hT => decide +kernel)) | ((with_reducible apply wps_load_el S 0 (hj := HX.out) (q := 0) (u := .int .i64 x.what)); (case hx | hi => rfl); (case hn => omega); (case hu => rfl); (case hT => decide +kernel)) | ((with_reducible apply wps_load_el S 0 (hj := HX.out) (q := 1) (u := .int .i64 x.a)); (case hx | hi => rfl); (case hn => omega); (case hu => rfl); (case hT => decide +kernel)) | ((with_reducible apply wps_load_el S 0 (hj := HX.out) (q := 2) (u := .int .i64 x.b)); (case hx | hi => rfl); (case hn => omega); (case hu => rfl); (case hT => decide +kernel)) | (go_at_call 23; refine Calls.mono (HC.out _) ?_; rintro e wz ⟨rfl, hE⟩; replace S := S.ext (Keep.of_below hE); clear hE) | ((with_reducible apply wps_storea (T := 39) S 0 (vs := [.int .i64 tw, .int .i64 ta, .int .i64 tb]) (m := 3)); (case hx | hy | hi | hm | h1 => rfl); (case hn => exact Nat.le_of_ble_eq_true rfl); (case hT => decide +kernel); clear S; intro wz S; simp only [List.set_cons_zero, List.set_cons_succ, setAll, List.setIfInBounds_toArray] at S) | ((with_reducible refine tot_done ?ht ?_); (case ht => kernel_rfl)) | ((with_reducible apply wps_text S); (case hm => kernel_rfl); (case hB => decide +kernel); clear S; intro wz S) | ((with_reducible apply wps_alloca (E := 39) S); (case hz => exact Tryd.zeroValue39); clear S; intro bz wz S) | ((with_reducible apply wps_load S 0); (case hx | hi | hu => rfl); (case hT => decide +kernel)) | ((with_reducible apply wps_loada (T := 39) (k := 3) S 0); (case hx | hi => rfl); (case hk => exact Nat.le_of_ble_eq_true rfl); (case hT => decide +kernel))
            (try simp only [Exit.inBlock, Exit.then]); refine bodyPost_ret (results2 rfl (res_tmp rfl) (res_tmp rfl)) rfl ?_
            rw [HR.out]
            exact ⟨rfl, S.below⟩
      | true =>
        have HM2 : Hid (∀ j y, j < k + 1 → l[j]? = some y → mayE y = true) := Lib.hid fun j y hj hy => by
          rcases Nat.lt_or_ge j k with h | h
          · exact HM.out j y h hy
          · obtain rfl : j = k := by omega
            rw [hx] at hy; cases hy; exact hm
        obtain ⟨g1, g2, g3, g4, g5, g6⟩ := may_not hm
        rw [← htw] at g1 g2
        clear hm hx HM htw
        generalize toldE x = t at *
        obtain ⟨tw, ta, tb⟩ := t
        simp only at g1 g2 g3 g4 g5 g6 HC
        as_aux_lemma =>
          go_wp2_with first | go_skip | ((with_reducible refine wpList_skip ?hw ?_); (case hw => with_unfolding_all rfl); simp only [Act.put, List.setIfInBounds_toArray, List.set_cons_succ, List.set_cons_zero]) | ((with_reducible apply wps_loada_el S 0 (hj := HX.out) (q := 0) (vs := [.int .i64 x.what, .int .i64 x.a, .int .i64 x.b]) (m := 3)); (case hx | hi => rfl); (case hn => omega); (case hm | hv => rfl); (case hT => decide +kernel)) | ((with_reducible apply wps_load_el S 0 (hj := HX.out) (q := 0) (u := .int .i64 x.what)); (case hx | hi => rfl); (case hn => omega); (case hu => rfl); (case hT => decide +kernel)) | ((with_reducible apply wps_load_el S 0 (hj := HX.out) (q := 1) (u := .int .i64 x.a)); (case hx | hi => rfl); (case hn => omega); (case hu => rfl); (case hT => decide +kernel)) | ((with_reducible apply wps_load_el S 0 (hj := HX.out) (q := 2) (u := .int .i64 x.b)); (case hx | hi => rfl); (case hn => omega); (case hu => rfl); (case hT => decide +kernel)) | (go_at_call 23; refine Calls.mono (HC.out _) ?_; rintro e wz ⟨rfl, hE⟩; replace S := S.ext (Keep.of_below hE); clear hE) | ((with_reducible apply wps_storea (T := 39) S 0 (vs := [.int .i64 tw, .int .i64 ta, .int .i64 tb]) (m := 3)); (case hx | hy | hi | hm | h1 => rfl); (case hn => exact Nat.le_of_ble_eq_true rfl); (case hT => decide +kernel); clear S; intro wz S; simp only [List.set_cons_zero, List.set_cons_succ, setAll, List.setIfInBounds_toArray] at S) | ((with_reducible refine tot_done ?ht ?_); (case ht => kernel_rfl)) | ((with_reducible apply wps_text S); (case hm => kernel_rfl); (case hB => decide +kernel); clear S; intro wz S) | ((with_reducible apply wps_alloca (E := 39) S); (case hz => exact Tryd.zeroValue39); clear S; intro bz wz S) | ((with_reducible apply wps_load S 0); (case hx | hi | hu => rfl); (case hT => decide +kernel)) | ((with_reducible apply wps_loada (T := 39) (k := 3) S 0); (case hx | hi => rfl); (case hk => exact Nat.le_of_ble_eq_true rfl); (case hT => decide +kernel))
          go_roundw
          case rel => exact ⟨k + 1, by omega, by go_num, HM2, S.pick [1] rfl⟩
          case measure => first | (simp [intOf]; done) | (simp [intOf]; omega)
    · obtain rfl : k = l.length := by omega
      have HA : Hid (∀ x ∈ l, mayE x = true) := Lib.hid fun x hx => by
        obtain ⟨j, hj, e⟩ := List.mem_iff_getElem.1 hx
        exact HM.out j x hj (by rw [List.getElem?_eq_getElem hj, e])
      have HP2 : Hid (q = if l.length ≤ 4096 then (rowsGo 0 l, 0) else ([], 11)) := Lib.hid (by rw [HP.out, if_pos (List.all_eq_true.2 HA.out)])
      clear HP HM
      by_cases hbig : 4096 < l.length
      · have c1 : (4096 : Int) < l.length := by omega
        have HR : Hid (q = ([], 11)) := Lib.hid (by rw [HP2.out, if_neg (by omega)])
        clear HP2 hbig
        as_aux_lemma =>
          go_wp2_with first | go_skip | ((with_reducible refine wpList_skip ?hw ?_); (case hw => with_unfolding_all rfl); simp only [Act.put, List.setIfInBounds_toArray, List.set_cons_succ, List.set_cons_zero]) | ((with_reducible refine tot_done ?ht ?_); (case ht => kernel_rfl)) | ((with_reducible apply wps_text S); (case hm => kernel_rfl); (case hB => decide +kernel); clear S; intro wz S) | ((with_reducible apply wps_alloca (E := 39) S); (case hz => exact Tryd.zeroValue39); clear S; intro bz wz S) | ((with_reducible apply wps_load S 0); (case hx | hi | hu => rfl); (case hT => decide +kernel)) | ((with_reducible apply wps_loada (T := 39) (k := 3) S 0); (case hx | hi => rfl); (case hk => exact Nat.le_of_ble_eq_true rfl); (case hT => decide +kernel))
          (try simp only [Exit.inBlock, Exit.then]); refine bodyPost_ret (results2 rfl (res_tmp rfl) (res_tmp rfl)) rfl ?_
          rw [HR.out]
          exact ⟨rfl, S.below⟩
      · have c1 : ¬ (4096 : Int) < l.length := by omega
        have HR : Hid (q = (rowsGo 0 l, 0)) := Lib.hid (by rw [HP2.out, if_pos (by omega)])
        have hl4 : l.length ≤ 4096 := by omega
        have HL := Lib.hid (rows_len l.length l (Nat.le_refl _) hl4 HA.out)
        have HT0 : Hid (rowsGo 0 l = [] ++ rowsGo 0 (l.drop 0)) := Lib.hid rfl
        clear HP2 hbig
        obtain ⟨tx, htx⟩ : ∃ t, rowsGo 0 l = t := ⟨_, rfl⟩
        rw [htx] at HR HL HT0
        have htl : tx.length ≤ 98304 := by have := HL.out; omega
        clear htx HL
        go_upto_region 12 with first | go_skip | ((with_reducible refine wpList_skip ?hw ?_); (case hw => with_unfolding_all rfl); simp only [Act.put, List.setIfInBounds_toArray, List.set_cons_succ, List.set_cons_zero]) | ((with_reducible refine tot_done ?ht ?_); (case ht => kernel_rfl)) | ((with_reducible apply wps_text S); (case hm => kernel_rfl); (case hB => decide +kernel); clear S; intro wz S) | ((with_reducible apply wps_alloca (E := 39) S); (case hz => exact Tryd.zeroValue39); clear S; intro bz wz S) | ((with_reducible apply wps_load S 0); (case hx | hi | hu => rfl); (case hT => decide +kernel)) | ((with_reducible apply wps_loada (T := 39) (k := 3) S 0); (case hx | hi => rfl); (case hk => exact Nat.le_of_ble_eq_true rfl); (case hT => decide +kernel))
        go_loopw [6, 7, 8] (fun s n i wr => JpRel2 w l (.slice ad l.length cp) tx s n i wr) (fun _ _ i _ => l.length - (intOf i).toNat)
        case atStart => exact ⟨0, 0, [], Nat.zero_le _, rfl, rfl, rfl, Nat.le_refl _, by omega, HT0, S⟩
        case round =>
          clear S
          obtain ⟨k, n, T, hk, rfl, rfl, rfl, hnk, hn4, HQ, S⟩ := hrel
          by_cases hlt : k < l.length
          · have hlt2 : (k : Int) < l.length := by omega
            obtain ⟨d, hd⟩ : ∃ x, l[k]? = some x := ⟨_, List.getElem?_eq_getElem hlt⟩
            obtain ⟨R, o, rfl⟩ : ∃ R o, ad = some ⟨R, o, none⟩ := (S.sl 0 rfl).elim fun F h => h.head (by omega)
            have hdr : l.drop k = d :: l.drop (k + 1) := by rw [← (List.getElem?_eq_some_iff.1 hd).2]; exact List.drop_eq_getElem_cons hlt
            have HX := Lib.hid hd
            have HMd : Hid (mayE d = true) := Lib.hid (HA.out d (List.mem_of_getElem? hd))
            have hTl : T.length ≤ 98304 := by have h9 := congrArg List.length HQ.out; rw [List.length_append] at h9; omega
            by_cases hA : k + 1 < l.length
            · have hA2 : decide ((k : Int) + 1 < l.length) = true := decide_eq_true (by omega)
              obtain ⟨e, he⟩ : ∃ x, l[k + 1]? = some x := ⟨_, List.getElem?_eq_getElem hA⟩
              have her : l.drop (k + 1) = e :: l.drop (k + 2) := by rw [← (List.getElem?_eq_some_iff.1 he).2]; exact List.drop_eq_getElem_cons hA
              have HE := Lib.hid he
              have HC1 := Lib.hid (fun w => rtold_calls e w)
              have HC0 := Lib.hid (fun w => rtold_calls d w)
              by_cases hB : n + 1 < 4095
              · have hB2 : decide ((n : Int) + 1 < 4095) = true := decide_eq_true (by omega)
                by_cases hs : toldE e = toldE d
                · have hsd : sameD e d = true := same_iff.2 hs
                  have He := Lib.hid ((do_ceqs (toldE e) (toldE d)).trans (decide_eq_true hs))
                  have HQ2 : Hid (tx = T ++ rowsGo (n + 1) (l.drop (k + 1))) := Lib.hid (by rw [HQ.out, hdr, her, rowsGo, if_pos ⟨hB, hsd⟩])
                  clear hs hsd HQ hdr her hd he HMd
                  generalize toldE e = t1 at *
                  generalize toldE d = t0 at *
                  go_upto_region 15 with first | go_skip | ((with_reducible refine wpList_skip ?hw ?_); (case hw => with_unfolding_all rfl); simp only [Act.put, List.setIfInBounds_toArray, List.set_cons_succ, List.set_cons_zero]) | ((with_reducible refine tot_done ?ht ?_); (case ht => kernel_rfl)) | ((with_reducible apply wps_text S); (case hm => kernel_rfl); (case hB => decide +kernel); clear S; intro wz S) | ((with_reducible apply wps_alloca (E := 39) S); (case hz => exact Tryd.zeroValue39); clear S; intro bz wz S) | ((with_reducible apply wps_load S 0); (case hx | hi | hu => rfl); (case hT => decide +kernel)) | ((with_reducible apply wps_loada (T := 39) (k := 3) S 0); (case hx | hi => rfl); (case hk => exact Nat.le_of_ble_eq_true rfl); (case hT => decide +kernel))
                  (refine wp_region_w (soft := [0, 1, 2, 3, 4, 5, 6, 7, 8, 9, 10, 11, 12, 13, 14, 15, 16, 17, 18, 19, 20, 21, 22]) S ?hm ?hB ?_); (case hm => kernel_rfl); (case hB => decide +kernel); clear S
                  iterate 23
                    (with_reducible apply softs_cons)
                    (case hw =>
                      (with_reducible apply soft_of); (case hi => rfl)
                      intro T wz S
                      simp only [List.cons_append, List.nil_append] at S
                      go_wp2_with first | go_skip | ((with_reducible apply wps_loada_el S 0 (hj := HE.out) (q := 0) (vs := [.int .i64 e.what, .int .i64 e.a, .int .i64 e.b]) (m := 3)); (case hx | hi => rfl); (case hn => omega); (case hm | hv => rfl); (case hT => decide +kernel)) | ((with_reducible apply wps_load_el S 0 (hj := HE.out) (q := 0) (u := .int .i64 e.what)); (case hx | hi => rfl); (case hn => omega); (case hu => rfl); (case hT => decide +kernel)) | ((with_reducible apply wps_load_el S 0 (hj := HE.out) (q := 1) (u := .int .i64 e.a)); (case hx | hi => rfl); (case hn => omega); (case hu => rfl); (case hT => decide +kernel)) | ((with_reducible apply wps_load_el S 0 (hj := HE.out) (q := 2) (u := .int .i64 e.b)); (case hx | hi => rfl); (case hn => omega); (case hu => rfl); (case hT => decide +kernel)) | ((with_reducible apply wps_loada_el S 0 (hj := HX.out) (q := 0) (vs := [.int .i64 d.what, .int .i64 d.a, .int .i64 d.b]) (m := 3)); (case hx | hi => rfl); (case hn => omega); (case hm | hv => rfl); (case hT => decide +kernel)) | ((with_reducible apply wps_load_el S 0 (hj := HX.out) (q := 0) (u := .int .i64 d.what)); (case hx | hi => rfl); (case hn => omega); (case hu => rfl); (case hT => decide +kernel)) | ((with_reducible apply wps_load_el S 0 (hj := HX.out) (q := 1) (u := .int .i64 d.a)); (case hx | hi => rfl); (case hn => omega); (case hu => rfl); (case hT => decide +kernel)) | ((with_reducible apply wps_load_el S 0 (hj := HX.out) (q := 2) (u := .int .i64 d.b)); (case hx | hi => rfl); (case hn => omega); (case hu => rfl); (case hT => decide +kernel)) | (go_at_call 23; have hcz := fun w => HC1.out w; (with_reducible refine Calls.mono (hcz _) ?_); clear hcz; rintro e wz ⟨rfl, hE⟩; replace S := S.ext (Keep.of_below hE); clear hE) | (go_at_call 23; have hcz := fun w => HC0.out w; (with_reducible refine Calls.mono (hcz _) ?_); clear hcz; rintro e wz ⟨rfl, hE⟩; replace S := S.ext (Keep.of_below hE); clear hE) | ((with_reducible apply wpList_eql_agg (t := 39) (ks := [.int .i64, .int .i64, .int .i64]) (b := _)); (case hx | hy => rfl); (case hl | ha | hg => kernel_rfl); (case hfx | hfy => rfl); (case hb => exact He.out)) | ((with_reducible refine tot_done ?ht ?_); (case ht => kernel_rfl)) | ((with_reducible apply wps_alloca (E := 39) S); (case hz => exact Tryd.zeroValue39); clear S; intro bz wz S) | ((with_reducible apply wps_load S 0); (case hx | hi | hu => rfl); (case hT => decide +kernel)) | ((with_reducible apply wps_loada (T := 39) (k := 3) S 0); (case hx | hi => rfl); (case hk => exact Nat.le_of_ble_eq_true rfl); (case hT => decide +kernel))
                      exact ⟨rfl, S⟩)
                    (case hs => exact ⟨_, rfl, by kernel_rfl⟩)
                  refine softs_nil ?_
                  (with_reducible apply W_done); (case hn => rfl); (case hr => decide +kernel)
                  intro wz S
                  simp only [List.append_nil] at S
                  go_wp2_with first | go_skip | ((with_reducible refine wpList_skip ?hw ?_); (case hw => with_unfolding_all rfl); simp only [Act.put, List.setIfInBounds_toArray, List.set_cons_succ, List.set_cons_zero]) | ((with_reducible refine tot_done ?ht ?_); (case ht => kernel_rfl)) | ((with_reducible apply wps_text S); (case hm => kernel_rfl); (case hB => decide +kernel); clear S; intro wz S) | ((with_reducible apply wps_alloca (E := 39) S); (case hz => exact Tryd.zeroValue39); clear S; intro bz wz S) | ((with_reducible apply wps_load S 0); (case hx | hi | hu => rfl); (case hT => decide +kernel)) | ((with_reducible apply wps_loada (T := 39) (k := 3) S 0); (case hx | hi => rfl); (case hk => exact Nat.le_of_ble_eq_true rfl); (case hT => decide +kernel))
                  go_roundw
                  case rel => exact ⟨k + 1, n + 1, T, by omega, by go_num, by go_num, rfl, by omega, by omega, HQ2, S⟩
                  case measure => first | (simp [intOf]; done) | (simp [intOf]; omega)
                · have hsd : sameD e d = false := by rw [← Bool.not_eq_true]; exact fun q => hs (same_iff.1 q)
                  have He := Lib.hid ((do_ceqs (toldE e) (toldE d)).trans (decide_eq_false hs))
                  have HQ3 : Hid (tx = T ++ (rowT d (n + 1) ++ rowsGo 0 (l.drop (k + 1)))) := Lib.hid (by rw [HQ.out, hdr, her, rowsGo, if_neg (fun q => by rw [hsd] at q; exact absurd q.2 (by decide))])
                  clear hs hsd hdr her hd he
                  generalize htt1 : toldE e = t1 at *
                  generalize htt0 : toldE d = t0 at *
                  clear htt1 htt0
                  go_upto_region 15 with first | go_skip | ((with_reducible refine wpList_skip ?hw ?_); (case hw => with_unfolding_all rfl); simp only [Act.put, List.setIfInBounds_toArray, List.set_cons_succ, List.set_cons_zero]) | ((with_reducible refine tot_done ?ht ?_); (case ht => kernel_rfl)) | ((with_reducible apply wps_text S); (case hm => kernel_rfl); (case hB => decide +kernel); clear S; intro wz S) | ((with_reducible apply wps_alloca (E := 39) S); (case hz => exact Tryd.zeroValue39); clear S; intro bz wz S) | ((with_reducible apply wps_load S 0); (case hx | hi | hu => rfl); (case hT => decide +kernel)) | ((with_reducible apply wps_loada (T := 39) (k := 3) S 0); (case hx | hi => rfl); (case hk => exact Nat.le_of_ble_eq_true rfl); (case hT => decide +kernel))
                  (refine wp_region_w (soft := [0, 1, 2, 3, 4, 5, 6, 7, 8, 9, 10, 11, 12, 13, 14, 15, 16, 17, 18, 19, 20, 21, 22]) S ?hm ?hB ?_); (case hm => kernel_rfl); (case hB => decide +kernel); clear S
                  iterate 23
                    (with_reducible apply softs_cons)
                    (case hw =>
                      (with_reducible apply soft_of); (case hi => rfl)
                      intro T wz S
                      simp only [List.cons_append, List.nil_append] at S
                      go_wp2_with first | go_skip | ((with_reducible apply wps_loada_el S 0 (hj := HE.out) (q := 0) (vs := [.int .i64 e.what, .int .i64 e.a, .int .i64 e.b]) (m := 3)); (case hx | hi => rfl); (case hn => omega); (case hm | hv => rfl); (case hT => decide +kernel)) | ((with_reducible apply wps_load_el S 0 (hj := HE.out) (q := 0) (u := .int .i64 e.what)); (case hx | hi => rfl); (case hn => omega); (case hu => rfl); (case hT => decide +kernel)) | ((with_reducible apply wps_load_el S 0 (hj := HE.out) (q := 1) (u := .int .i64 e.a)); (case hx | hi => rfl); (case hn => omega); (case hu => rfl); (case hT => decide +kernel)) | ((with_reducible apply wps_load_el S 0 (hj := HE.out) (q := 2) (u := .int .i64 e.b)); (case hx | hi => rfl); (case hn => omega); (case hu => rfl); (case hT => decide +kernel)) | ((with_reducible apply wps_loada_el S 0 (hj := HX.out) (q := 0) (vs := [.int .i64 d.what, .int .i64 d.a, .int .i64 d.b]) (m := 3)); (case hx | hi => rfl); (case hn => omega); (case hm | hv => rfl); (case hT => decide +kernel)) | ((with_reducible apply wps_load_el S 0 (hj := HX.out) (q := 0) (u := .int .i64 d.what)); (case hx | hi => rfl); (case hn => omega); (case hu => rfl); (case hT => decide +kernel)) | ((with_reducible apply wps_load_el S 0 (hj := HX.out) (q := 1) (u := .int .i64 d.a)); (case hx | hi => rfl); (case hn => omega); (case hu => rfl); (case hT => decide +kernel)) | ((with_reducible apply wps_load_el S 0 (hj := HX.out) (q := 2) (u := .int .i64 d.b)); (case hx | hi => rfl); (case hn => omega); (case hu => rfl); (case hT => decide +kernel)) | (go_at_call 23; have hcz := fun w => HC1.out w; (with_reducible refine Calls.mono (hcz _) ?_); clear hcz; rintro e wz ⟨rfl, hE⟩; replace S := S.ext (Keep.of_below hE); clear hE) | (go_at_call 23; have hcz := fun w => HC0.out w; (with_reducible refine Calls.mono (hcz _) ?_); clear hcz; rintro e wz ⟨rfl, hE⟩; replace S := S.ext (Keep.of_below hE); clear hE) | ((with_reducible apply wpList_eql_agg (t := 39) (ks := [.int .i64, .int .i64, .int .i64]) (b := _)); (case hx | hy => rfl); (case hl | ha | hg => kernel_rfl); (case hfx | hfy => rfl); (case hb => exact He.out)) | ((with_reducible refine tot_done ?ht ?_); (case ht => kernel_rfl)) | ((with_reducible apply wps_alloca (E := 39) S); (case hz => exact Tryd.zeroValue39); clear S; intro bz wz S) | ((with_reducible apply wps_load S 0); (case hx | hi | hu => rfl); (case hT => decide +kernel)) | ((with_reducible apply wps_loada (T := 39) (k := 3) S 0); (case hx | hi => rfl); (case hk => exact Nat.le_of_ble_eq_true rfl); (case hT => decide +kernel))
                      exact ⟨rfl, S⟩)
                    (case hs => exact ⟨_, rfl, by kernel_rfl⟩)
                  refine softs_nil ?_
                  (with_reducible apply W_done); (case hn => rfl); (case hr => decide +kernel)
                  intro wz S
                  simp only [List.append_nil] at S
                  clear HC1 HC0 He HE
                  -- the row of d is written, n+1 times: HQ3: tx = T ++ (rowT d (n + 1) ++ rowsGo 0 (l.drop (k + 1)))
                  have hmd := may_of HMd.out
                  have HN1 := Lib.hid (fun w => rname_calls d.what w)
                  have HM1 := Lib.hid (fun w => rmany_calls d.what w)
                  have HD1 := Lib.hid (fun w => rdec_calls ((n : Int) + 1) w (by omega) (by omega))
                  have hl1 := numT_len (n := (n : Int) + 1) (by omega)
                  have hl0 : (nameI d.what).length ≤ 7 := by
                    unfold nameI; repeat' split
                    all_goals decide
                  have HRT : Hid (rowT d (n + 1) = nameI d.what ++ (if 0 < manyI d.what then 32 :: numT d.a else []) ++ (if 1 < manyI d.what then 32 :: numT d.b else []) ++ (if 1 < n + 1 then 32 :: 120 :: numT ((n : Int) + 1) else []) ++ [10]) := Lib.hid rfl
                  simp only [toldE] at hmd
                  obtain ⟨_, _, ha0, ha1, hb0, hb1⟩ := hmd
                  clear HMd HQ
                  generalize nameI d.what = NM at *
                  generalize manyI d.what = mn at *
                  generalize numT ((n : Int) + 1) = NN at *
                  generalize rowT d (n + 1) = RT at *
                  by_cases m0 : 0 < mn
                  · rw [if_neg (by omega)] at ha0 ha1
                    have HDA := Lib.hid (fun w => rdec_calls d.a w ha0 (by omega))
                    have hla := numT_len (n := d.a) (by omega)
                    have c0 : (0 : Int) < mn := by omega
                    generalize numT d.a = A at *
                    by_cases m1 : 1 < mn
                    · rw [if_neg (by omega)] at hb0 hb1
                      have HDB := Lib.hid (fun w => rdec_calls d.b w hb0 (by omega))
                      have hlb := numT_len (n := d.b) (by omega)
                      have c1 : (1 : Int) < mn := by omega
                      generalize numT d.b = B at *
                      by_cases n1 : 1 < n + 1
                      · have e1 : (1 : Int) < (n : Int) + 1 := by omega
                        have e2 : 0 < n := by omega
                        have HQ4 : Hid (tx = T ++ (NM ++ (32 :: A) ++ (32 :: B) ++ (32 :: 120 :: NN) ++ [10]) ++ rowsGo 0 (l.drop (k + 1))) := Lib.hid (by rw [HQ3.out, HRT.out, if_pos m0, if_pos m1, if_pos n1]; simp only [List.append_assoc])
                        clear HRT HQ3 m0 m1 n1 ha0 ha1 hb0 hb1
                        first
                          | (exfalso; omega)
                          | skip
                        all_goals
                          as_aux_lemma =>
                            go_wp2_with first | go_skip | ((with_reducible refine wpList_skip ?hw ?_); (case hw => with_unfolding_all rfl); simp only [Act.put, List.setIfInBounds_toArray, List.set_cons_succ, List.set_cons_zero]) | ((with_reducible apply wps_load_el S 0 (hj := HX.out) (q := 0) (u := .int .i64 d.what)); (case hx | hi => rfl); (case hn => omega); (case hu => rfl); (case hT => decide +kernel)) | ((with_reducible apply wps_load_el S 0 (hj := HX.out) (q := 1) (u := .int .i64 d.a)); (case hx | hi => rfl); (case hn => omega); (case hu => rfl); (case hT => decide +kernel)) | ((with_reducible apply wps_load_el S 0 (hj := HX.out) (q := 2) (u := .int .i64 d.b)); (case hx | hi => rfl); (case hn => omega); (case hu => rfl); (case hT => decide +kernel)) | (go_at_call 24; refine Calls.mono (HN1.out _) ?_; rintro e wz ⟨rfl, hE⟩; replace S := S.ext (Keep.of_below hE); clear hE) | (go_at_call 25; refine Calls.mono (HM1.out _) ?_; rintro e wz ⟨rfl, hE⟩; replace S := S.ext (Keep.of_below hE); clear hE) | (go_at_call 26; have hcz := fun w => HDA.out w; (with_reducible refine Calls.mono (hcz _) ?_); clear hcz; rintro e wz ⟨rfl, hE⟩; replace S := S.ext (Keep.of_below hE); clear hE) | (go_at_call 26; have hcz := fun w => HDB.out w; (with_reducible refine Calls.mono (hcz _) ?_); clear hcz; rintro e wz ⟨rfl, hE⟩; replace S := S.ext (Keep.of_below hE); clear hE) | (go_at_call 26; have hcz := fun w => HD1.out w; (with_reducible refine Calls.mono (hcz _) ?_); clear hcz; rintro e wz ⟨rfl, hE⟩; replace S := S.ext (Keep.of_below hE); clear hE) | ((with_reducible apply wps_sadd (T := 9)); (case hx | hy => rfl); (case hn => first | omega | (simp; omega))) | ((with_reducible refine tot_done ?ht ?_); (case ht => kernel_rfl)) | ((with_reducible apply wps_text S); (case hm => kernel_rfl); (case hB => decide +kernel); clear S; intro wz S) | ((with_reducible apply wps_alloca (E := 39) S); (case hz => exact Tryd.zeroValue39); clear S; intro bz wz S) | ((with_reducible apply wps_load S 0); (case hx | hi | hu => rfl); (case hT => decide +kernel)) | ((with_reducible apply wps_loada (T := 39) (k := 3) S 0); (case hx | hi => rfl); (case hk => exact Nat.le_of_ble_eq_true rfl); (case hT => decide +kernel))
                            go_roundw
                            case rel => refine ⟨k + 1, 0, _, by omega, by go_num, rfl, rfl, by omega, by omega, Lib.hid ?_, S⟩; rw [HQ4.out]; simp
                            case measure => first | (simp [intOf]; done) | (simp [intOf]; omega)
                      · have e1 : ¬ (1 : Int) < (n : Int) + 1 := by omega
                        have e2 : ¬ 0 < n := by omega
                        have HQ4 : Hid (tx = T ++ (NM ++ (32 :: A) ++ (32 :: B) ++ [] ++ [10]) ++ rowsGo 0 (l.drop (k + 1))) := Lib.hid (by rw [HQ3.out, HRT.out, if_pos m0, if_pos m1, if_neg n1]; simp only [List.append_assoc])
                        clear HRT HQ3 m0 m1 n1 ha0 ha1 hb0 hb1
                        first
                          | (exfalso; omega)
                          | skip
                        all_goals
                          as_aux_lemma =>
                            go_wp2_with first | go_skip | ((with_reducible refine wpList_skip ?hw ?_); (case hw => with_unfolding_all rfl); simp only [Act.put, List.setIfInBounds_toArray, List.set_cons_succ, List.set_cons_zero]) | ((with_reducible apply wps_load_el S 0 (hj := HX.out) (q := 0) (u := .int .i64 d.what)); (case hx | hi => rfl); (case hn => omega); (case hu => rfl); (case hT => decide +kernel)) | ((with_reducible apply wps_load_el S 0 (hj := HX.out) (q := 1) (u := .int .i64 d.a)); (case hx | hi => rfl); (case hn => omega); (case hu => rfl); (case hT => decide +kernel)) | ((with_reducible apply wps_load_el S 0 (hj := HX.out) (q := 2) (u := .int .i64 d.b)); (case hx | hi => rfl); (case hn => omega); (case hu => rfl); (case hT => decide +kernel)) | (go_at_call 24; refine Calls.mono (HN1.out _) ?_; rintro e wz ⟨rfl, hE⟩; replace S := S.ext (Keep.of_below hE); clear hE) | (go_at_call 25; refine Calls.mono (HM1.out _) ?_; rintro e wz ⟨rfl, hE⟩; replace S := S.ext (Keep.of_below hE); clear hE) | (go_at_call 26; have hcz := fun w => HDA.out w; (with_reducible refine Calls.mono (hcz _) ?_); clear hcz; rintro e wz ⟨rfl, hE⟩; replace S := S.ext (Keep.of_below hE); clear hE) | (go_at_call 26; have hcz := fun w => HDB.out w; (with_reducible refine Calls.mono (hcz _) ?_); clear hcz; rintro e wz ⟨rfl, hE⟩; replace S := S.ext (Keep.of_below hE); clear hE) | (go_at_call 26; have hcz := fun w => HD1.out w; (with_reducible refine Calls.mono (hcz _) ?_); clear hcz; rintro e wz ⟨rfl, hE⟩; replace S := S.ext (Keep.of_below hE); clear hE) | ((with_reducible apply wps_sadd (T := 9)); (case hx | hy => rfl); (case hn => first | omega | (simp; omega))) | ((with_reducible refine tot_done ?ht ?_); (case ht => kernel_rfl)) | ((with_reducible apply wps_text S); (case hm => kernel_rfl); (case hB => decide +kernel); clear S; intro wz S) | ((with_reducible apply wps_alloca (E := 39) S); (case hz => exact Tryd.zeroValue39); clear S; intro bz wz S) | ((with_reducible apply wps_load S 0); (case hx | hi | hu => rfl); (case hT => decide +kernel)) | ((with_reducible apply wps_loada (T := 39) (k := 3) S 0); (case hx | hi => rfl); (case hk => exact Nat.le_of_ble_eq_true rfl); (case hT => decide +kernel))
                            go_roundw
                            case rel => refine ⟨k + 1, 0, _, by omega, by go_num, rfl, rfl, by omega, by omega, Lib.hid ?_, S⟩; rw [HQ4.out]; simp
                            case measure => first | (simp [intOf]; done) | (simp [intOf]; omega)
                    · have c1 : ¬ (1 : Int) < mn := by omega
                      have HDB := HDA
                      by_cases n1 : 1 < n + 1
                      · have e1 : (1 : Int) < (n : Int) + 1 := by omega
                        have e2 : 0 < n := by omega
                        have HQ4 : Hid (tx = T ++ (NM ++ (32 :: A) ++ [] ++ (32 :: 120 :: NN) ++ [10]) ++ rowsGo 0 (l.drop (k + 1))) := Lib.hid (by rw [HQ3.out, HRT.out, if_pos m0, if_neg m1, if_pos n1]; simp only [List.append_assoc])
                        clear HRT HQ3 m0 m1 n1 ha0 ha1 hb0 hb1
                        first
                          | (exfalso; omega)
                          | skip
                        all_goals
                          as_aux_lemma =>
                            go_wp2_with first | go_skip | ((with_reducible refine wpList_skip ?hw ?_); (case hw => with_unfolding_all rfl); simp only [Act.put, List.setIfInBounds_toArray, List.set_cons_succ, List.set_cons_zero]) | ((with_reducible apply wps_load_el S 0 (hj := HX.out) (q := 0) (u := .int .i64 d.what)); (case hx | hi => rfl); (case hn => omega); (case hu => rfl); (case hT => decide +kernel)) | ((with_reducible apply wps_load_el S 0 (hj := HX.out) (q := 1) (u := .int .i64 d.a)); (case hx | hi => rfl); (case hn => omega); (case hu => rfl); (case hT => decide +kernel)) | ((with_reducible apply wps_load_el S 0 (hj := HX.out) (q := 2) (u := .int .i64 d.b)); (case hx | hi => rfl); (case hn => omega); (case hu => rfl); (case hT => decide +kernel)) | (go_at_call 24; refine Calls.mono (HN1.out _) ?_; rintro e wz ⟨rfl, hE⟩; replace S := S.ext (Keep.of_below hE); clear hE) | (go_at_call 25; refine Calls.mono (HM1.out _) ?_; rintro e wz ⟨rfl, hE⟩; replace S := S.ext (Keep.of_below hE); clear hE) | (go_at_call 26; have hcz := fun w => HDA.out w; (with_reducible refine Calls.mono (hcz _) ?_); clear hcz; rintro e wz ⟨rfl, hE⟩; replace S := S.ext (Keep.of_below hE); clear hE) | (go_at_call 26; have hcz := fun w => HDB.out w; (with_reducible refine Calls.mono (hcz _) ?_); clear hcz; rintro e wz ⟨rfl, hE⟩; replace S := S.ext (Keep.of_below hE); clear hE) | (go_at_call 26; have hcz := fun w => HD1.out w; (with_reducible refine Calls.mono (hcz _) ?_); clear hcz; rintro e wz ⟨rfl, hE⟩; replace S := S.ext (Keep.of_below hE); clear hE) | ((with_reducible apply wps_sadd (T := 9)); (case hx | hy => rfl); (case hn => first | omega | (simp; omega))) | ((with_reducible refine tot_done ?ht ?_); (case ht => kernel_rfl)) | ((with_reducible apply wps_text S); (case hm => kernel_rfl); (case hB => decide +kernel); clear S; intro wz S) | ((with_reducible apply wps_alloca (E := 39) S); (case hz => exact Tryd.zeroValue39); clear S; intro bz wz S) | ((with_reducible apply wps_load S 0); (case hx | hi | hu => rfl); (case hT => decide +kernel)) | ((with_reducible apply wps_loada (T := 39) (k := 3) S 0); (case hx | hi => rfl); (case hk => exact Nat.le_of_ble_eq_true rfl); (case hT => decide +kernel))
                            go_roundw
                            case rel => refine ⟨k + 1, 0, _, by omega, by go_num, rfl, rfl, by omega, by omega, Lib.hid ?_, S⟩; rw [HQ4.out]; simp
                            case measure => first | (simp [intOf]; done) | (simp [intOf]; omega)
                      · have e1 : ¬ (1 : Int) < (n : Int) + 1 := by omega
                        have e2 : ¬ 0 < n := by omega
                        have HQ4 : Hid (tx = T ++ (NM ++ (32 :: A) ++ [] ++ [] ++ [10]) ++ rowsGo 0 (l.drop (k + 1))) := Lib.hid (by rw [HQ3.out, HRT.out, if_pos m0, if_neg m1, if_neg n1]; simp only [List.append_assoc])
                        clear HRT HQ3 m0 m1 n1 ha0 ha1 hb0 hb1
                        first
                          | (exfalso; omega)
                          | skip
                        all_goals
                          as_aux_lemma =>
                            go_wp2_with first | go_skip | ((with_reducible refine wpList_skip ?hw ?_); (case hw => with_unfolding_all rfl); simp only [Act.put, List.setIfInBounds_toArray, List.set_cons_succ, List.set_cons_zero]) | ((with_reducible apply wps_load_el S 0 (hj := HX.out) (q := 0) (u := .int .i64 d.what)); (case hx | hi => rfl); (case hn => omega); (case hu => rfl); (case hT => decide +kernel)) | ((with_reducible apply wps_load_el S 0 (hj := HX.out) (q := 1) (u := .int .i64 d.a)); (case hx | hi => rfl); (case hn => omega); (case hu => rfl); (case hT => decide +kernel)) | ((with_reducible apply wps_load_el S 0 (hj := HX.out) (q := 2) (u := .int .i64 d.b)); (case hx | hi => rfl); (case hn => omega); (case hu => rfl); (case hT => decide +kernel)) | (go_at_call 24; refine Calls.mono (HN1.out _) ?_; rintro e wz ⟨rfl, hE⟩; replace S := S.ext (Keep.of_below hE); clear hE) | (go_at_call 25; refine Calls.mono (HM1.out _) ?_; rintro e wz ⟨rfl, hE⟩; replace S := S.ext (Keep.of_below hE); clear hE) | (go_at_call 26; have hcz := fun w => HDA.out w; (with_reducible refine Calls.mono (hcz _) ?_); clear hcz; rintro e wz ⟨rfl, hE⟩; replace S := S.ext (Keep.of_below hE); clear hE) | (go_at_call 26; have hcz := fun w => HDB.out w; (with_reducible refine Calls.mono (hcz _) ?_); clear hcz; rintro e wz ⟨rfl, hE⟩; replace S := S.ext (Keep.of_below hE); clear hE) | (go_at_call 26; have hcz := fun w => HD1.out w; (with_reducible refine Calls.mono (hcz _) ?_); clear hcz; rintro e wz ⟨rfl, hE⟩; replace S := S.ext (Keep.of_below hE); clear hE) | ((with_reducible apply wps_sadd (T := 9)); (case hx | hy => rfl); (case hn => first | omega | (simp; omega))) | ((with_reducible refine tot_done ?ht ?_); (case ht => kernel_rfl)) | ((with_reducible apply wps_text S); (case hm => kernel_rfl); (case hB => decide +kernel); clear S; intro wz S) | ((with_reducible apply wps_alloca (E := 39) S); (case hz => exact Tryd.zeroValue39); clear S; intro bz wz S) | ((with_reducible apply wps_load S 0); (case hx | hi | hu => rfl); (case hT => decide +kernel)) | ((with_reducible apply wps_loada (T := 39) (k := 3) S 0); (case hx | hi => rfl); (case hk => exact Nat.le_of_ble_eq_true rfl); (case hT => decide +kernel))
                            go_roundw
                            case rel => refine ⟨k + 1, 0, _, by omega, by go_num, rfl, rfl, by omega, by omega, Lib.hid ?_, S⟩; rw [HQ4.out]; simp
                            case measure => first | (simp [intOf]; done) | (simp [intOf]; omega)
                  · have c0 : ¬ (0 : Int) < mn := by omega
                    have c1 : ¬ (1 : Int) < mn := by omega
                    have HDA := HD1
                    have HDB := HD1
                    by_cases n1 : 1 < n + 1
                    · have e1 : (1 : Int) < (n : Int) + 1 := by omega
                      have e2 : 0 < n := by omega
                      have HQ4 : Hid (tx = T ++ (NM ++ [] ++ [] ++ (32 :: 120 :: NN) ++ [10]) ++ rowsGo 0 (l.drop (k + 1))) := Lib.hid (by rw [HQ3.out, HRT.out, if_neg m0, if_neg (show ¬ 1 < mn by omega), if_pos n1]; simp only [List.append_assoc])
                      clear HRT HQ3 m0 n1 ha0 ha1 hb0 hb1
                      first
                        | (exfalso; omega)
                        | skip
                      all_goals
                        as_aux_lemma =>
                          go_wp2_with first | go_skip | ((with_reducible refine wpList_skip ?hw ?_); (case hw => with_unfolding_all rfl); simp only [Act.put, List.setIfInBounds_toArray, List.set_cons_succ, List.set_cons_zero]) | ((with_reducible apply wps_load_el S 0 (hj := HX.out) (q := 0) (u := .int .i64 d.what)); (case hx | hi => rfl); (case hn => omega); (case hu => rfl); (case hT => decide +kernel)) | ((with_reducible apply wps_load_el S 0 (hj := HX.out) (q := 1) (u := .int .i64 d.a)); (case hx | hi => rfl); (case hn => omega); (case hu => rfl); (case hT => decide +kernel)) | ((with_reducible apply wps_load_el S 0 (hj := HX.out) (q := 2) (u := .int .i64 d.b)); (case hx | hi => rfl); (case hn => omega); (case hu => rfl); (case hT => decide +kernel)) | (go_at_call 24; refine Calls.mono (HN1.out _) ?_; rintro e wz ⟨rfl, hE⟩; replace S := S.ext (Keep.of_below hE); clear hE) | (go_at_call 25; refine Calls.mono (HM1.out _) ?_; rintro e wz ⟨rfl, hE⟩; replace S := S.ext (Keep.of_below hE); clear hE) | (go_at_call 26; have hcz := fun w => HDA.out w; (with_reducible refine Calls.mono (hcz _) ?_); clear hcz; rintro e wz ⟨rfl, hE⟩; replace S := S.ext (Keep.of_below hE); clear hE) | (go_at_call 26; have hcz := fun w => HDB.out w; (with_reducible refine Calls.mono (hcz _) ?_); clear hcz; rintro e wz ⟨rfl, hE⟩; replace S := S.ext (Keep.of_below hE); clear hE) | (go_at_call 26; have hcz := fun w => HD1.out w; (with_reducible refine Calls.mono (hcz _) ?_); clear hcz; rintro e wz ⟨rfl, hE⟩; replace S := S.ext (Keep.of_below hE); clear hE) | ((with_reducible apply wps_sadd (T := 9)); (case hx | hy => rfl); (case hn => first | omega | (simp; omega))) | ((with_reducible refine tot_done ?ht ?_); (case ht => kernel_rfl)) | ((with_reducible apply wps_text S); (case hm => kernel_rfl); (case hB => decide +kernel); clear S; intro wz S) | ((with_reducible apply wps_alloca (E := 39) S); (case hz => exact Tryd.zeroValue39); clear S; intro bz wz S) | ((with_reducible apply wps_load S 0); (case hx | hi | hu => rfl); (case hT => decide +kernel)) | ((with_reducible apply wps_loada (T := 39) (k := 3) S 0); (case hx | hi => rfl); (case hk => exact Nat.le_of_ble_eq_true rfl); (case hT => decide +kernel))
                          go_roundw
                          case rel => refine ⟨k + 1, 0, _, by omega, by go_num, rfl, rfl, by omega, by omega, Lib.hid ?_, S⟩; rw [HQ4.out]; simp
                          case measure => first | (simp [intOf]; done) | (simp [intOf]; omega)
                    · have e1 : ¬ (1 : Int) < (n : Int) + 1 := by omega
                      have e2 : ¬ 0 < n := by omega
                      have HQ4 : Hid (tx = T ++ (NM ++ [] ++ [] ++ [] ++ [10]) ++ rowsGo 0 (l.drop (k + 1))) := Lib.hid (by rw [HQ3.out, HRT.out, if_neg m0, if_neg (show ¬ 1 < mn by omega), if_neg n1]; simp only [List.append_assoc])
                      clear HRT HQ3 m0 n1 ha0 ha1 hb0 hb1
                      first
                        | (exfalso; omega)
                        | skip
                      all_goals
                        as_aux_lemma =>
                          go_wp2_with first | go_skip | ((with_reducible refine wpList_skip ?hw ?_); (case hw => with_unfolding_all rfl); simp only [Act.put, List.setIfInBounds_toArray, List.set_cons_succ, List.set_cons_zero]) | ((with_reducible apply wps_load_el S 0 (hj := HX.out) (q := 0) (u := .int .i64 d.what)); (case hx | hi => rfl); (case hn => omega); (case hu => rfl); (case hT => decide +kernel)) | ((with_reducible apply wps_load_el S 0 (hj := HX.out) (q := 1) (u := .int .i64 d.a)); (case hx | hi => rfl); (case hn => omega); (case hu => rfl); (case hT => decide +kernel)) | ((with_reducible apply wps_load_el S 0 (hj := HX.out) (q := 2) (u := .int .i64 d.b)); (case hx | hi => rfl); (case hn => omega); (case hu => rfl); (case hT => decide +kernel)) | (go_at_call 24; refine Calls.mono (HN1.out _) ?_; rintro e wz ⟨rfl, hE⟩; replace S := S.ext (Keep.of_below hE); clear hE) | (go_at_call 25; refine Calls.mono (HM1.out _) ?_; rintro e wz ⟨rfl, hE⟩; replace S := S.ext (Keep.of_below hE); clear hE) | (go_at_call 26; have hcz := fun w => HDA.out w; (with_reducible refine Calls.mono (hcz _) ?_); clear hcz; rintro e wz ⟨rfl, hE⟩; replace S := S.ext (Keep.of_below hE); clear hE) | (go_at_call 26; have hcz := fun w => HDB.out w; (with_reducible refine Calls.mono (hcz _) ?_); clear hcz; rintro e wz ⟨rfl, hE⟩; replace S := S.ext (Keep.of_below hE); clear hE) | (go_at_call 26; have hcz := fun w => HD1.out w; (with_reducible refine Calls.mono (hcz _) ?_); clear hcz; rintro e wz ⟨rfl, hE⟩; replace S := S.ext (Keep.of_below hE); clear hE) | ((with_reducible apply wps_sadd (T := 9)); (case hx | hy => rfl); (case hn => first | omega | (simp; omega))) | ((with_reducible refine tot_done ?ht ?_); (case ht => kernel_rfl)) | ((with_reducible apply wps_text S); (case hm => kernel_rfl); (case hB => decide +kernel); clear S; intro wz S) | ((with_reducible apply wps_alloca (E := 39) S); (case hz => exact Tryd.zeroValue39); clear S; intro bz wz S) | ((with_reducible apply wps_load S 0); (case hx | hi | hu => rfl); (case hT => decide +kernel)) | ((with_reducible apply wps_loada (T := 39) (k := 3) S 0); (case hx | hi => rfl); (case hk => exact Nat.le_of_ble_eq_true rfl); (case hT => decide +kernel))
                          go_roundw
                          case rel => refine ⟨k + 1, 0, _, by omega, by go_num, rfl, rfl, by omega, by omega, Lib.hid ?_, S⟩; rw [HQ4.out]; simp
                          case measure => first | (simp [intOf]; done) | (simp [intOf]; omega)
              · have hB2 : decide ((n : Int) + 1 < 4095) = false := decide_eq_false (by omega)
                have HQ3 : Hid (tx = T ++ (rowT d (n + 1) ++ rowsGo 0 (l.drop (k + 1)))) := Lib.hid (by rw [HQ.out, hdr, her, rowsGo, if_neg (fun q => hB q.1)])
                clear hdr her hd he HC1 HC0 HE
                go_upto_region 15 with first | go_skip | ((with_reducible refine wpList_skip ?hw ?_); (case hw => with_unfolding_all rfl); simp only [Act.put, List.setIfInBounds_toArray, List.set_cons_succ, List.set_cons_zero]) | ((with_reducible refine tot_done ?ht ?_); (case ht => kernel_rfl)) | ((with_reducible apply wps_text S); (case hm => kernel_rfl); (case hB => decide +kernel); clear S; intro wz S) | ((with_reducible apply wps_alloca (E := 39) S); (case hz => exact Tryd.zeroValue39); clear S; intro bz wz S) | ((with_reducible apply wps_load S 0); (case hx | hi | hu => rfl); (case hT => decide +kernel)) | ((with_reducible apply wps_loada (T := 39) (k := 3) S 0); (case hx | hi => rfl); (case hk => exact Nat.le_of_ble_eq_true rfl); (case hT => decide +kernel))
                (refine wp_region_w (soft := [0, 1, 2, 3, 4, 5, 6, 7, 8, 9, 10, 11, 12, 13, 14, 15, 16, 17, 18, 19, 20, 21, 22]) S ?hm ?hB ?_); (case hm => kernel_rfl); (case hB => decide +kernel); clear S
                iterate 23
                  (with_reducible apply softs_cons)
                  (case hw =>
                    (with_reducible apply soft_of); (case hi => rfl)
                    intro T wz S
                    simp only [List.cons_append, List.nil_append] at S
                    go_wp2_with first | go_skip | ((with_reducible refine tot_done ?ht ?_); (case ht => kernel_rfl)) | ((with_reducible apply wps_alloca (E := 39) S); (case hz => exact Tryd.zeroValue39); clear S; intro bz wz S) | ((with_reducible apply wps_load S 0); (case hx | hi | hu => rfl); (case hT => decide +kernel)) | ((with_reducible apply wps_loada (T := 39) (k := 3) S 0); (case hx | hi => rfl); (case hk => exact Nat.le_of_ble_eq_true rfl); (case hT => decide +kernel))
                    exact ⟨rfl, S⟩)
                  (case hs => exact ⟨_, rfl, by kernel_rfl⟩)
                refine softs_nil ?_
                (with_reducible apply W_done); (case hn => rfl); (case hr => decide +kernel)
                intro wz S
                simp only [List.append_nil] at S
                clear hB hB2
                -- the row of d is written, n+1 times: HQ3: tx = T ++ (rowT d (n + 1) ++ rowsGo 0 (l.drop (k + 1)))
                have hmd := may_of HMd.out
                have HN1 := Lib.hid (fun w => rname_calls d.what w)
                have HM1 := Lib.hid (fun w => rmany_calls d.what w)
                have HD1 := Lib.hid (fun w => rdec_calls ((n : Int) + 1) w (by omega) (by omega))
                have hl1 := numT_len (n := (n : Int) + 1) (by omega)
                have hl0 : (nameI d.what).length ≤ 7 := by
                  unfold nameI; repeat' split
                  all_goals decide
                have HRT : Hid (rowT d (n + 1) = nameI d.what ++ (if 0 < manyI d.what then 32 :: numT d.a else []) ++ (if 1 < manyI d.what then 32 :: numT d.b else []) ++ (if 1 < n + 1 then 32 :: 120 :: numT ((n : Int) + 1) else []) ++ [10]) := Lib.hid rfl
                simp only [toldE] at hmd
                obtain ⟨_, _, ha0, ha1, hb0, hb1⟩ := hmd
                clear HMd HQ
                generalize nameI d.what = NM at *
                generalize manyI d.what = mn at *
                generalize numT ((n : Int) + 1) = NN at *
                generalize rowT d (n + 1) = RT at *
                by_cases m0 : 0 < mn
                · rw [if_neg (by omega)] at ha0 ha1
                  have HDA := Lib.hid (fun w => rdec_calls d.a w ha0 (by omega))
                  have hla := numT_len (n := d.a) (by omega)
                  have c0 : (0 : Int) < mn := by omega
                  generalize numT d.a = A at *
                  by_cases m1 : 1 < mn
                  · rw [if_neg (by omega)] at hb0 hb1
                    have HDB := Lib.hid (fun w => rdec_calls d.b w hb0 (by omega))
                    have hlb := numT_len (n := d.b) (by omega)
                    have c1 : (1 : Int) < mn := by omega
                    generalize numT d.b = B at *
                    by_cases n1 : 1 < n + 1
                    · have e1 : (1 : Int) < (n : Int) + 1 := by omega
                      have e2 : 0 < n := by omega
                      have HQ4 : Hid (tx = T ++ (NM ++ (32 :: A) ++ (32 :: B) ++ (32 :: 120 :: NN) ++ [10]) ++ rowsGo 0 (l.drop (k + 1))) := Lib.hid (by rw [HQ3.out, HRT.out, if_pos m0, if_pos m1, if_pos n1]; simp only [List.append_assoc])
                      clear HRT HQ3 m0 m1 n1 ha0 ha1 hb0 hb1
                      first
                        | (exfalso; omega)
                        | skip
                      all_goals
                        as_aux_lemma =>
                          go_wp2_with first | go_skip | ((with_reducible refine wpList_skip ?hw ?_); (case hw => with_unfolding_all rfl); simp only [Act.put, List.setIfInBounds_toArray, List.set_cons_succ, List.set_cons_zero]) | ((with_reducible apply wps_load_el S 0 (hj := HX.out) (q := 0) (u := .int .i64 d.what)); (case hx | hi => rfl); (case hn => omega); (case hu => rfl); (case hT => decide +kernel)) | ((with_reducible apply wps_load_el S 0 (hj := HX.out) (q := 1) (u := .int .i64 d.a)); (case hx | hi => rfl); (case hn => omega); (case hu => rfl); (case hT => decide +kernel)) | ((with_reducible apply wps_load_el S 0 (hj := HX.out) (q := 2) (u := .int .i64 d.b)); (case hx | hi => rfl); (case hn => omega); (case hu => rfl); (case hT => decide +kernel)) | (go_at_call 24; refine Calls.mono (HN1.out _) ?_; rintro e wz ⟨rfl, hE⟩; replace S := S.ext (Keep.of_below hE); clear hE) | (go_at_call 25; refine Calls.mono (HM1.out _) ?_; rintro e wz ⟨rfl, hE⟩; replace S := S.ext (Keep.of_below hE); clear hE) | (go_at_call 26; have hcz := fun w => HDA.out w; (with_reducible refine Calls.mono (hcz _) ?_); clear hcz; rintro e wz ⟨rfl, hE⟩; replace S := S.ext (Keep.of_below hE); clear hE) | (go_at_call 26; have hcz := fun w => HDB.out w; (with_reducible refine Calls.mono (hcz _) ?_); clear hcz; rintro e wz ⟨rfl, hE⟩; replace S := S.ext (Keep.of_below hE); clear hE) | (go_at_call 26; have hcz := fun w => HD1.out w; (with_reducible refine Calls.mono (hcz _) ?_); clear hcz; rintro e wz ⟨rfl, hE⟩; replace S := S.ext (Keep.of_below hE); clear hE) | ((with_reducible apply wps_sadd (T := 9)); (case hx | hy => rfl); (case hn => first | omega | (simp; omega))) | ((with_reducible refine tot_done ?ht ?_); (case ht => kernel_rfl)) | ((with_reducible apply wps_text S); (case hm => kernel_rfl); (case hB => decide +kernel); clear S; intro wz S) | ((with_reducible apply wps_alloca (E := 39) S); (case hz => exact Tryd.zeroValue39); clear S; intro bz wz S) | ((with_reducible apply wps_load S 0); (case hx | hi | hu => rfl); (case hT => decide +kernel)) | ((with_reducible apply wps_loada (T := 39) (k := 3) S 0); (case hx | hi => rfl); (case hk => exact Nat.le_of_ble_eq_true rfl); (case hT => decide +kernel))
                          go_roundw
                          case rel => refine ⟨k + 1, 0, _, by omega, by go_num, rfl, rfl, by omega, by omega, Lib.hid ?_, S⟩; rw [HQ4.out]; simp
                          case measure => first | (simp [intOf]; done) | (simp [intOf]; omega)
                    · have e1 : ¬ (1 : Int) < (n : Int) + 1 := by omega
                      have e2 : ¬ 0 < n := by omega
                      have HQ4 : Hid (tx = T ++ (NM ++ (32 :: A) ++ (32 :: B) ++ [] ++ [10]) ++ rowsGo 0 (l.drop (k + 1))) := Lib.hid (by rw [HQ3.out, HRT.out, if_pos m0, if_pos m1, if_neg n1]; simp only [List.append_assoc])
                      clear HRT HQ3 m0 m1 n1 ha0 ha1 hb0 hb1
                      first
                        | (exfalso; omega)
                        | skip
                      all_goals
                        as_aux_lemma =>
                          go_wp2_with first | go_skip | ((with_reducible refine wpList_skip ?hw ?_); (case hw => with_unfolding_all rfl); simp only [Act.put, List.setIfInBounds_toArray, List.set_cons_succ, List.set_cons_zero]) | ((with_reducible apply wps_load_el S 0 (hj := HX.out) (q := 0) (u := .int .i64 d.what)); (case hx | hi => rfl); (case hn => omega); (case hu => rfl); (case hT => decide +kernel)) | ((with_reducible apply wps_load_el S 0 (hj := HX.out) (q := 1) (u := .int .i64 d.a)); (case hx | hi => rfl); (case hn => omega); (case hu => rfl); (case hT => decide +kernel)) | ((with_reducible apply wps_load_el S 0 (hj := HX.out) (q := 2) (u := .int .i64 d.b)); (case hx | hi => rfl); (case hn => omega); (case hu => rfl); (case hT => decide +kernel)) | (go_at_call 24; refine Calls.mono (HN1.out _) ?_; rintro e wz ⟨rfl, hE⟩; replace S := S.ext (Keep.of_below hE); clear hE) | (go_at_call 25; refine Calls.mono (HM1.out _) ?_; rintro e wz ⟨rfl, hE⟩; replace S := S.ext (Keep.of_below hE); clear hE) | (go_at_call 26; have hcz := fun w => HDA.out w; (with_reducible refine Calls.mono (hcz _) ?_); clear hcz; rintro e wz ⟨rfl, hE⟩; replace S := S.ext (Keep.of_below hE); clear hE) | (go_at_call 26; have hcz := fun w => HDB.out w; (with_reducible refine Calls.mono (hcz _) ?_); clear hcz; rintro e wz ⟨rfl, hE⟩; replace S := S.ext (Keep.of_below hE); clear hE) | (go_at_call 26; have hcz := fun w => HD1.out w; (with_reducible refine Calls.mono (hcz _) ?_); clear hcz; rintro e wz ⟨rfl, hE⟩; replace S := S.ext (Keep.of_below hE); clear hE) | ((with_reducible apply wps_sadd (T := 9)); (case hx | hy => rfl); (case hn => first | omega | (simp; omega))) | ((with_reducible refine tot_done ?ht ?_); (case ht => kernel_rfl)) | ((with_reducible apply wps_text S); (case hm => kernel_rfl); (case hB => decide +kernel); clear S; intro wz S) | ((with_reducible apply wps_alloca (E := 39) S); (case hz => exact Tryd.zeroValue39); clear S; intro bz wz S) | ((with_reducible apply wps_load S 0); (case hx | hi | hu => rfl); (case hT => decide +kernel)) | ((with_reducible apply wps_loada (T := 39) (k := 3) S 0); (case hx | hi => rfl); (case hk => exact Nat.le_of_ble_eq_true rfl); (case hT => decide +kernel))
                          go_roundw
                          case rel => refine ⟨k + 1, 0, _, by omega, by go_num, rfl, rfl, by omega, by omega, Lib.hid ?_, S⟩; rw [HQ4.out]; simp
                          case measure => first | (simp [intOf]; done) | (simp [intOf]; omega)
                  · have c1 : ¬ (1 : Int) < mn := by omega
                    have HDB := HDA
                    by_cases n1 : 1 < n + 1
                    · have e1 : (1 : Int) < (n : Int) + 1 := by omega
                      have e2 : 0 < n := by omega
                      have HQ4 : Hid (tx = T ++ (NM ++ (32 :: A) ++ [] ++ (32 :: 120 :: NN) ++ [10]) ++ rowsGo 0 (l.drop (k + 1))) := Lib.hid (by rw [HQ3.out, HRT.out, if_pos m0, if_neg m1, if_pos n1]; simp only [List.append_assoc])
                      clear HRT HQ3 m0 m1 n1 ha0 ha1 hb0 hb1
                      first
                        | (exfalso; omega)
                        | skip
                      all_goals
                        as_aux_lemma =>
                          go_wp2_with first | go_skip | ((with_reducible refine wpList_skip ?hw ?_); (case hw => with_unfolding_all rfl); simp only [Act.put, List.setIfInBounds_toArray, List.set_cons_succ, List.set_cons_zero]) | ((with_reducible apply wps_load_el S 0 (hj := HX.out) (q := 0) (u := .int .i64 d.what)); (case hx | hi => rfl); (case hn => omega); (case hu => rfl); (case hT => decide +kernel)) | ((with_reducible apply wps_load_el S 0 (hj := HX.out) (q := 1) (u := .int .i64 d.a)); (case hx | hi => rfl); (case hn => omega); (case hu => rfl); (case hT => decide +kernel)) | ((with_reducible apply wps_load_el S 0 (hj := HX.out) (q := 2) (u := .int .i64 d.b)); (case hx | hi => rfl); (case hn => omega); (case hu => rfl); (case hT => decide +kernel)) | (go_at_call 24; refine Calls.mono (HN1.out _) ?_; rintro e wz ⟨rfl, hE⟩; replace S := S.ext (Keep.of_below hE); clear hE) | (go_at_call 25; refine Calls.mono (HM1.out _) ?_; rintro e wz ⟨rfl, hE⟩; replace S := S.ext (Keep.of_below hE); clear hE) | (go_at_call 26; have hcz := fun w => HDA.out w; (with_reducible refine Calls.mono (hcz _) ?_); clear hcz; rintro e wz ⟨rfl, hE⟩; replace S := S.ext (Keep.of_below hE); clear hE) | (go_at_call 26; have hcz := fun w => HDB.out w; (with_reducible refine Calls.mono (hcz _) ?_); clear hcz; rintro e wz ⟨rfl, hE⟩; replace S := S.ext (Keep.of_below hE); clear hE) | (go_at_call 26; have hcz := fun w => HD1.out w; (with_reducible refine Calls.mono (hcz _) ?_); clear hcz; rintro e wz ⟨rfl, hE⟩; replace S := S.ext (Keep.of_below hE); clear hE) | ((with_reducible apply wps_sadd (T := 9)); (case hx | hy => rfl); (case hn => first | omega | (simp; omega))) | ((with_reducible refine tot_done ?ht ?_); (case ht => kernel_rfl)) | ((with_reducible apply wps_text S); (case hm => kernel_rfl); (case hB => decide +kernel); clear S; intro wz S) | ((with_reducible apply wps_alloca (E := 39) S); (case hz => exact Tryd.zeroValue39); clear S; intro bz wz S) | ((with_reducible apply wps_load S 0); (case hx | hi | hu => rfl); (case hT => decide +kernel)) | ((with_reducible apply wps_loada (T := 39) (k := 3) S 0); (case hx | hi => rfl); (case hk => exact Nat.le_of_ble_eq_true rfl); (case hT => decide +kernel))
                          go_roundw
                          case rel => refine ⟨k + 1, 0, _, by omega, by go_num, rfl, rfl, by omega, by omega, Lib.hid ?_, S⟩; rw [HQ4.out]; simp
                          case measure => first | (simp [intOf]; done) | (simp [intOf]; omega)
                    · have e1 : ¬ (1 : Int) < (n : Int) + 1 := by omega
                      have e2 : ¬ 0 < n := by omega
                      have HQ4 : Hid (tx = T ++ (NM ++ (32 :: A) ++ [] ++ [] ++ [10]) ++ rowsGo 0 (l.drop (k + 1))) := Lib.hid (by rw [HQ3.out, HRT.out, if_pos m0, if_neg m1, if_neg n1]; simp only [List.append_assoc])
                      clear HRT HQ3 m0 m1 n1 ha0 ha1 hb0 hb1
                      first
                        | (exfalso; omega)
                        | skip
                      all_goals
                        as_aux_lemma =>
                          go_wp2_with first | go_skip | ((with_reducible refine wpList_skip ?hw ?_); (case hw => with_unfolding_all rfl); simp only [Act.put, List.setIfInBounds_toArray, List.set_cons_succ, List.set_cons_zero]) | ((with_reducible apply wps_load_el S 0 (hj := HX.out) (q := 0) (u := .int .i64 d.what)); (case hx | hi => rfl); (case hn => omega); (case hu => rfl); (case hT => decide +kernel)) | ((with_reducible apply wps_load_el S 0 (hj := HX.out) (q := 1) (u := .int .i64 d.a)); (case hx | hi => rfl); (case hn => omega); (case hu => rfl); (case hT => decide +kernel)) | ((with_reducible apply wps_load_el S 0 (hj := HX.out) (q := 2) (u := .int .i64 d.b)); (case hx | hi => rfl); (case hn => omega); (case hu => rfl); (case hT => decide +kernel)) | (go_at_call 24; refine Calls.mono (HN1.out _) ?_; rintro e wz ⟨rfl, hE⟩; replace S := S.ext (Keep.of_below hE); clear hE) | (go_at_call 25; refine Calls.mono (HM1.out _) ?_; rintro e wz ⟨rfl, hE⟩; replace S := S.ext (Keep.of_below hE); clear hE) | (go_at_call 26; have hcz := fun w => HDA.out w; (with_reducible refine Calls.mono (hcz _) ?_); clear hcz; rintro e wz ⟨rfl, hE⟩; replace S := S.ext (Keep.of_below hE); clear hE) | (go_at_call 26; have hcz := fun w => HDB.out w; (with_reducible refine Calls.mono (hcz _) ?_); clear hcz; rintro e wz ⟨rfl, hE⟩; replace S := S.ext (Keep.of_below hE); clear hE) | (go_at_call 26; have hcz := fun w => HD1.out w; (with_reducible refine Calls.mono (hcz _) ?_); clear hcz; rintro e wz ⟨rfl, hE⟩; replace S := S.ext (Keep.of_below hE); clear hE) | ((with_reducible apply wps_sadd (T := 9)); (case hx | hy => rfl); (case hn => first | omega | (simp; omega))) | ((with_reducible refine tot_done ?ht ?_); (case ht => kernel_rfl)) | ((with_reducible apply wps_text S); (case hm => kernel_rfl); (case hB => decide +kernel); clear S; intro wz S) | ((with_reducible apply wps_alloca (E := 39) S); (case hz => exact Tryd.zeroValue39); clear S; intro bz wz S) | ((with_reducible apply wps_load S 0); (case hx | hi | hu => rfl); (case hT => decide +kernel)) | ((with_reducible apply wps_loada (T := 39) (k := 3) S 0); (case hx | hi => rfl); (case hk => exact Nat.le_of_ble_eq_true rfl); (case hT => decide +kernel))
                          go_roundw
                          case rel => refine ⟨k + 1, 0, _, by omega, by go_num, rfl, rfl, by omega, by omega, Lib.hid ?_, S⟩; rw [HQ4.out]; simp
                          case measure => first | (simp [intOf]; done) | (simp [intOf]; omega)
                · have c0 : ¬ (0 : Int) < mn := by omega
                  have c1 : ¬ (1 : Int) < mn := by omega
                  have HDA := HD1
                  have HDB := HD1
                  by_cases n1 : 1 < n + 1
                  · have e1 : (1 : Int) < (n : Int) + 1 := by omega
                    have e2 : 0 < n := by omega
                    have HQ4 : Hid (tx = T ++ (NM ++ [] ++ [] ++ (32 :: 120 :: NN) ++ [10]) ++ rowsGo 0 (l.drop (k + 1))) := Lib.hid (by rw [HQ3.out, HRT.out, if_neg m0, if_neg (show ¬ 1 < mn by omega), if_pos n1]; simp only [List.append_assoc])
                    clear HRT HQ3 m0 n1 ha0 ha1 hb0 hb1
                    first
                      | (exfalso; omega)
                      | skip
                    all_goals
                      as_aux_lemma =>
                        go_wp2_with first | go_skip | ((with_reducible refine wpList_skip ?hw ?_); (case hw => with_unfolding_all rfl); simp only [Act.put, List.setIfInBounds_toArray, List.set_cons_succ, List.set_cons_zero]) | ((with_reducible apply wps_load_el S 0 (hj := HX.out) (q := 0) (u := .int .i64 d.what)); (case hx | hi => rfl); (case hn => omega); (case hu => rfl); (case hT => decide +kernel)) | ((with_reducible apply wps_load_el S 0 (hj := HX.out) (q := 1) (u := .int .i64 d.a)); (case hx | hi => rfl); (case hn => omega); (case hu => rfl); (case hT => decide +kernel)) | ((with_reducible apply wps_load_el S 0 (hj := HX.out) (q := 2) (u := .int .i64 d.b)); (case hx | hi => rfl); (case hn => omega); (case hu => rfl); (case hT => decide +kernel)) | (go_at_call 24; refine Calls.mono (HN1.out _) ?_; rintro e wz ⟨rfl, hE⟩; replace S := S.ext (Keep.of_below hE); clear hE) | (go_at_call 25; refine Calls.mono (HM1.out _) ?_; rintro e wz ⟨rfl, hE⟩; replace S := S.ext (Keep.of_below hE); clear hE) | (go_at_call 26; have hcz := fun w => HDA.out w; (with_reducible refine Calls.mono (hcz _) ?_); clear hcz; rintro e wz ⟨rfl, hE⟩; replace S := S.ext (Keep.of_below hE); clear hE) | (go_at_call 26; have hcz := fun w => HDB.out w; (with_reducible refine Calls.mono (hcz _) ?_); clear hcz; rintro e wz ⟨rfl, hE⟩; replace S := S.ext (Keep.of_below hE); clear hE) | (go_at_call 26; have hcz := fun w => HD1.out w; (with_reducible refine Calls.mono (hcz _) ?_); clear hcz; rintro e wz ⟨rfl, hE⟩; replace S := S.ext (Keep.of_below hE); clear hE) | ((with_reducible apply wps_sadd (T := 9)); (case hx | hy => rfl); (case hn => first | omega | (simp; omega))) | ((with_reducible refine tot_done ?ht ?_); (case ht => kernel_rfl)) | ((with_reducible apply wps_text S); (case hm => kernel_rfl); (case hB => decide +kernel); clear S; intro wz S) | ((with_reducible apply wps_alloca (E := 39) S); (case hz => exact Tryd.zeroValue39); clear S; intro bz wz S) | ((with_reducible apply wps_load S 0); (case hx | hi | hu => rfl); (case hT => decide +kernel)) | ((with_reducible apply wps_loada (T := 39) (k := 3) S 0); (case hx | hi => rfl); (case hk => exact Nat.le_of_ble_eq_true rfl); (case hT => decide +kernel))
                        go_roundw
                        case rel => refine ⟨k + 1, 0, _, by omega, by go_num, rfl, rfl, by omega, by omega, Lib.hid ?_, S⟩; rw [HQ4.out]; simp
                        case measure => first | (simp [intOf]; done) | (simp [intOf]; omega)
                  · have e1 : ¬ (1 : Int) < (n : Int) + 1 := by omega
                    have e2 : ¬ 0 < n := by omega
                    have HQ4 : Hid (tx = T ++ (NM ++ [] ++ [] ++ [] ++ [10]) ++ rowsGo 0 (l.drop (k + 1))) := Lib.hid (by rw [HQ3.out, HRT.out, if_neg m0, if_neg (show ¬ 1 < mn by omega), if_neg n1]; simp only [List.append_assoc])
                    clear HRT HQ3 m0 n1 ha0 ha1 hb0 hb1
                    first
                      | (exfalso; omega)
                      | skip
                    all_goals
                      as_aux_lemma =>
                        go_wp2_with first | go_skip | ((with_reducible refine wpList_skip ?hw ?_); (case hw => with_unfolding_all rfl); simp only [Act.put, List.setIfInBounds_toArray, List.set_cons_succ, List.set_cons_zero]) | ((with_reducible apply wps_load_el S 0 (hj := HX.out) (q := 0) (u := .int .i64 d.what)); (case hx | hi => rfl); (case hn => omega); (case hu => rfl); (case hT => decide +kernel)) | ((with_reducible apply wps_load_el S 0 (hj := HX.out) (q := 1) (u := .int .i64 d.a)); (case hx | hi => rfl); (case hn => omega); (case hu => rfl); (case hT => decide +kernel)) | ((with_reducible apply wps_load_el S 0 (hj := HX.out) (q := 2) (u := .int .i64 d.b)); (case hx | hi => rfl); (case hn => omega); (case hu => rfl); (case hT => decide +kernel)) | (go_at_call 24; refine Calls.mono (HN1.out _) ?_; rintro e wz ⟨rfl, hE⟩; replace S := S.ext (Keep.of_below hE); clear hE) | (go_at_call 25; refine Calls.mono (HM1.out _) ?_; rintro e wz ⟨rfl, hE⟩; replace S := S.ext (Keep.of_below hE); clear hE) | (go_at_call 26; have hcz := fun w => HDA.out w; (with_reducible refine Calls.mono (hcz _) ?_); clear hcz; rintro e wz ⟨rfl, hE⟩; replace S := S.ext (Keep.of_below hE); clear hE) | (go_at_call 26; have hcz := fun w => HDB.out w; (with_reducible refine Calls.mono (hcz _) ?_); clear hcz; rintro e wz ⟨rfl, hE⟩; replace S := S.ext (Keep.of_below hE); clear hE) | (go_at_call 26; have hcz := fun w => HD1.out w; (with_reducible refine Calls.mono (hcz _) ?_); clear hcz; rintro e wz ⟨rfl, hE⟩; replace S := S.ext (Keep.of_below hE); clear hE) | ((with_reducible apply wps_sadd (T := 9)); (case hx | hy => rfl); (case hn => first | omega | (simp; omega))) | ((with_reducible refine tot_done ?ht ?_); (case ht => kernel_rfl)) | ((with_reducible apply wps_text S); (case hm => kernel_rfl); (case hB => decide +kernel); clear S; intro wz S) | ((with_reducible apply wps_alloca (E := 39) S); (case hz => exact Tryd.zeroValue39); clear S; intro bz wz S) | ((with_reducible apply wps_load S 0); (case hx | hi | hu => rfl); (case hT => decide +kernel)) | ((with_reducible apply wps_loada (T := 39) (k := 3) S 0); (case hx | hi => rfl); (case hk => exact Nat.le_of_ble_eq_true rfl); (case hT => decide +kernel))
                        go_roundw
                        case rel => refine ⟨k + 1, 0, _, by omega, by go_num, rfl, rfl, by omega, by omega, Lib.hid ?_, S⟩; rw [HQ4.out]; simp
                        case measure => first | (simp [intOf]; done) | (simp [intOf]; omega)
            · have hA2 : decide ((k : Int) + 1 < l.length) = false := decide_eq_false (by omega)
              have HQ3 : Hid (tx = T ++ (rowT d (n + 1) ++ rowsGo 0 (l.drop (k + 1)))) := Lib.hid (by
                have hz : l.drop (k + 1) = [] := List.drop_eq_nil_of_le (by omega)
                rw [HQ.out, hdr, hz]; simp [rowsGo])
              clear hdr hd
              go_upto_region 15 with first | go_skip | ((with_reducible refine wpList_skip ?hw ?_); (case hw => with_unfolding_all rfl); simp only [Act.put, List.setIfInBounds_toArray, List.set_cons_succ, List.set_cons_zero]) | ((with_reducible refine tot_done ?ht ?_); (case ht => kernel_rfl)) | ((with_reducible apply wps_text S); (case hm => kernel_rfl); (case hB => decide +kernel); clear S; intro wz S) | ((with_reducible apply wps_alloca (E := 39) S); (case hz => exact Tryd.zeroValue39); clear S; intro bz wz S) | ((with_reducible apply wps_load S 0); (case hx | hi | hu => rfl); (case hT => decide +kernel)) | ((with_reducible apply wps_loada (T := 39) (k := 3) S 0); (case hx | hi => rfl); (case hk => exact Nat.le_of_ble_eq_true rfl); (case hT => decide +kernel))
              (refine wp_region_w (soft := [0, 1, 2, 3, 4, 5, 6, 7, 8, 9, 10, 11, 12, 13, 14, 15, 16, 17, 18, 19, 20, 21, 22]) S ?hm ?hB ?_); (case hm => kernel_rfl); (case hB => decide +kernel); clear S
              iterate 23
                (with_reducible apply softs_cons)
                (case hw =>
                  (with_reducible apply soft_of); (case hi => rfl)
                  intro T wz S
                  simp only [List.cons_append, List.nil_append] at S
                  go_wp2_with first | go_skip | ((with_reducible refine tot_done ?ht ?_); (case ht => kernel_rfl)) | ((with_reducible apply wps_alloca (E := 39) S); (case hz => exact Tryd.zeroValue39); clear S; intro bz wz S) | ((with_reducible apply wps_load S 0); (case hx | hi | hu => rfl); (case hT => decide +kernel)) | ((with_reducible apply wps_loada (T := 39) (k := 3) S 0); (case hx | hi => rfl); (case hk => exact Nat.le_of_ble_eq_true rfl); (case hT => decide +kernel))
                  exact ⟨rfl, S⟩)
                (case hs => exact ⟨_, rfl, by kernel_rfl⟩)
              refine softs_nil ?_
              (with_reducible apply W_done); (case hn => rfl); (case hr => decide +kernel)
              intro wz S
              simp only [List.append_nil] at S
              -- the row of d is written, n+1 times: HQ3: tx = T ++ (rowT d (n + 1) ++ rowsGo 0 (l.drop (k + 1)))
              have hmd := may_of HMd.out
              have HN1 := Lib.hid (fun w => rname_calls d.what w)
              have HM1 := Lib.hid (fun w => rmany_calls d.what w)
              have HD1 := Lib.hid (fun w => rdec_calls ((n : Int) + 1) w (by omega) (by omega))
              have hl1 := numT_len (n := (n : Int) + 1) (by omega)
              have hl0 : (nameI d.what).length ≤ 7 := by
                unfold nameI; repeat' split
                all_goals decide
              have HRT : Hid (rowT d (n + 1) = nameI d.what ++ (if 0 < manyI d.what then 32 :: numT d.a else []) ++ (if 1 < manyI d.what then 32 :: numT d.b else []) ++ (if 1 < n + 1 then 32 :: 120 :: numT ((n : Int) + 1) else []) ++ [10]) := Lib.hid rfl
              simp only [toldE] at hmd
              obtain ⟨_, _, ha0, ha1, hb0, hb1⟩ := hmd
              clear HMd HQ
              generalize nameI d.what = NM at *
              generalize manyI d.what = mn at *
              generalize numT ((n : Int) + 1) = NN at *
              generalize rowT d (n + 1) = RT at *
              by_cases m0 : 0 < mn
              · rw [if_neg (by omega)] at ha0 ha1
                have HDA := Lib.hid (fun w => rdec_calls d.a w ha0 (by omega))
                have hla := numT_len (n := d.a) (by omega)
                have c0 : (0 : Int) < mn := by omega
                generalize numT d.a = A at *
                by_cases m1 : 1 < mn
                · rw [if_neg (by omega)] at hb0 hb1
                  have HDB := Lib.hid (fun w => rdec_calls d.b w hb0 (by omega))
                  have hlb := numT_len (n := d.b) (by omega)
                  have c1 : (1 : Int) < mn := by omega
                  generalize numT d.b = B at *
                  by_cases n1 : 1 < n + 1
                  · have e1 : (1 : Int) < (n : Int) + 1 := by omega
                    have e2 : 0 < n := by omega
                    have HQ4 : Hid (tx = T ++ (NM ++ (32 :: A) ++ (32 :: B) ++ (32 :: 120 :: NN) ++ [10]) ++ rowsGo 0 (l.drop (k + 1))) := Lib.hid (by rw [HQ3.out, HRT.out, if_pos m0, if_pos m1, if_pos n1]; simp only [List.append_assoc])
                    clear HRT HQ3 m0 m1 n1 ha0 ha1 hb0 hb1
                    first
                      | (exfalso; omega)
                      | skip
                    all_goals
                      as_aux_lemma =>
                        go_wp2_with first | go_skip | ((with_reducible refine wpList_skip ?hw ?_); (case hw => with_unfolding_all rfl); simp only [Act.put, List.setIfInBounds_toArray, List.set_cons_succ, List.set_cons_zero]) | ((with_reducible apply wps_load_el S 0 (hj := HX.out) (q := 0) (u := .int .i64 d.what)); (case hx | hi => rfl); (case hn => omega); (case hu => rfl); (case hT => decide +kernel)) | ((with_reducible apply wps_load_el S 0 (hj := HX.out) (q := 1) (u := .int .i64 d.a)); (case hx | hi => rfl); (case hn => omega); (case hu => rfl); (case hT => decide +kernel)) | ((with_reducible apply wps_load_el S 0 (hj := HX.out) (q := 2) (u := .int .i64 d.b)); (case hx | hi => rfl); (case hn => omega); (case hu => rfl); (case hT => decide +kernel)) | (go_at_call 24; refine Calls.mono (HN1.out _) ?_; rintro e wz ⟨rfl, hE⟩; replace S := S.ext (Keep.of_below hE); clear hE) | (go_at_call 25; refine Calls.mono (HM1.out _) ?_; rintro e wz ⟨rfl, hE⟩; replace S := S.ext (Keep.of_below hE); clear hE) | (go_at_call 26; have hcz := fun w => HDA.out w; (with_reducible refine Calls.mono (hcz _) ?_); clear hcz; rintro e wz ⟨rfl, hE⟩; replace S := S.ext (Keep.of_below hE); clear hE) | (go_at_call 26; have hcz := fun w => HDB.out w; (with_reducible refine Calls.mono (hcz _) ?_); clear hcz; rintro e wz ⟨rfl, hE⟩; replace S := S.ext (Keep.of_below hE); clear hE) | (go_at_call 26; have hcz := fun w => HD1.out w; (with_reducible refine Calls.mono (hcz _) ?_); clear hcz; rintro e wz ⟨rfl, hE⟩; replace S := S.ext (Keep.of_below hE); clear hE) | ((with_reducible apply wps_sadd (T := 9)); (case hx | hy => rfl); (case hn => first | omega | (simp; omega))) | ((with_reducible refine tot_done ?ht ?_); (case ht => kernel_rfl)) | ((with_reducible apply wps_text S); (case hm => kernel_rfl); (case hB => decide +kernel); clear S; intro wz S) | ((with_reducible apply wps_alloca (E := 39) S); (case hz => exact Tryd.zeroValue39); clear S; intro bz wz S) | ((with_reducible apply wps_load S 0); (case hx | hi | hu => rfl); (case hT => decide +kernel)) | ((with_reducible apply wps_loada (T := 39) (k := 3) S 0); (case hx | hi => rfl); (case hk => exact Nat.le_of_ble_eq_true rfl); (case hT => decide +kernel))
                        go_roundw
                        case rel => refine ⟨k + 1, 0, _, by omega, by go_num, rfl, rfl, by omega, by omega, Lib.hid ?_, S⟩; rw [HQ4.out]; simp
                        case measure => first | (simp [intOf]; done) | (simp [intOf]; omega)
                  · have e1 : ¬ (1 : Int) < (n : Int) + 1 := by omega
                    have e2 : ¬ 0 < n := by omega
                    have HQ4 : Hid (tx = T ++ (NM ++ (32 :: A) ++ (32 :: B) ++ [] ++ [10]) ++ rowsGo 0 (l.drop (k + 1))) := Lib.hid (by rw [HQ3.out, HRT.out, if_pos m0, if_pos m1, if_neg n1]; simp only [List.append_assoc])
                    clear HRT HQ3 m0 m1 n1 ha0 ha1 hb0 hb1
                    first
                      | (exfalso; omega)
                      | skip
                    all_goals
                      as_aux_lemma =>
                        go_wp2_with first | go_skip | ((with_reducible refine wpList_skip ?hw ?_); (case hw => with_unfolding_all rfl); simp only [Act.put, List.setIfInBounds_toArray, List.set_cons_succ, List.set_cons_zero]) | ((with_reducible apply wps_load_el S 0 (hj := HX.out) (q := 0) (u := .int .i64 d.what)); (case hx | hi => rfl); (case hn => omega); (case hu => rfl); (case hT => decide +kernel)) | ((with_reducible apply wps_load_el S 0 (hj := HX.out) (q := 1) (u := .int .i64 d.a)); (case hx | hi => rfl); (case hn => omega); (case hu => rfl); (case hT => decide +kernel)) | ((with_reducible apply wps_load_el S 0 (hj := HX.out) (q := 2) (u := .int .i64 d.b)); (case hx | hi => rfl); (case hn => omega); (case hu => rfl); (case hT => decide +kernel)) | (go_at_call 24; refine Calls.mono (HN1.out _) ?_; rintro e wz ⟨rfl, hE⟩; replace S := S.ext (Keep.of_below hE); clear hE) | (go_at_call 25; refine Calls.mono (HM1.out _) ?_; rintro e wz ⟨rfl, hE⟩; replace S := S.ext (Keep.of_below hE); clear hE) | (go_at_call 26; have hcz := fun w => HDA.out w; (with_reducible refine Calls.mono (hcz _) ?_); clear hcz; rintro e wz ⟨rfl, hE⟩; replace S := S.ext (Keep.of_below hE); clear hE) | (go_at_call 26; have hcz := fun w => HDB.out w; (with_reducible refine Calls.mono (hcz _) ?_); clear hcz; rintro e wz ⟨rfl, hE⟩; replace S := S.ext (Keep.of_below hE); clear hE) | (go_at_call 26; have hcz := fun w => HD1.out w; (with_reducible refine Calls.mono (hcz _) ?_); clear hcz; rintro e wz ⟨rfl, hE⟩; replace S := S.ext (Keep.of_below hE); clear hE) | ((with_reducible apply wps_sadd (T := 9)); (case hx | hy => rfl); (case hn => first | omega | (simp; omega))) | ((with_reducible refine tot_done ?ht ?_); (case ht => kernel_rfl)) | ((with_reducible apply wps_text S); (case hm => kernel_rfl); (case hB => decide +kernel); clear S; intro wz S) | ((with_reducible apply wps_alloca (E := 39) S); (case hz => exact Tryd.zeroValue39); clear S; intro bz wz S) | ((with_reducible apply wps_load S 0); (case hx | hi | hu => rfl); (case hT => decide +kernel)) | ((with_reducible apply wps_loada (T := 39) (k := 3) S 0); (case hx | hi => rfl); (case hk => exact Nat.le_of_ble_eq_true rfl); (case hT => decide +kernel))
                        go_roundw
                        case rel => refine ⟨k + 1, 0, _, by omega, by go_num, rfl, rfl, by omega, by omega, Lib.hid ?_, S⟩; rw [HQ4.out]; simp
                        case measure => first | (simp [intOf]; done) | (simp [intOf]; omega)
                · have c1 : ¬ (1 : Int) < mn := by omega
                  have HDB := HDA
                  by_cases n1 : 1 < n + 1
                  · have e1 : (1 : Int) < (n : Int) + 1 := by omega
                    have e2 : 0 < n := by omega
                    have HQ4 : Hid (tx = T ++ (NM ++ (32 :: A) ++ [] ++ (32 :: 120 :: NN) ++ [10]) ++ rowsGo 0 (l.drop (k + 1))) := Lib.hid (by rw [HQ3.out, HRT.out, if_pos m0, if_neg m1, if_pos n1]; simp only [List.append_assoc])
                    clear HRT HQ3 m0 m1 n1 ha0 ha1 hb0 hb1
                    first
                      | (exfalso; omega)
                      | skip
                    all_goals
                      as_aux_lemma =>
                        go_wp2_with first | go_skip | ((with_reducible refine wpList_skip ?hw ?_); (case hw => with_unfolding_all rfl); simp only [Act.put, List.setIfInBounds_toArray, List.set_cons_succ, List.set_cons_zero]) | ((with_reducible apply wps_load_el S 0 (hj := HX.out) (q := 0) (u := .int .i64 d.what)); (case hx | hi => rfl); (case hn => omega); (case hu => rfl); (case hT => decide +kernel)) | ((with_reducible apply wps_load_el S 0 (hj := HX.out) (q := 1) (u := .int .i64 d.a)); (case hx | hi => rfl); (case hn => omega); (case hu => rfl); (case hT => decide +kernel)) | ((with_reducible apply wps_load_el S 0 (hj := HX.out) (q := 2) (u := .int .i64 d.b)); (case hx | hi => rfl); (case hn => omega); (case hu => rfl); (case hT => decide +kernel)) | (go_at_call 24; refine Calls.mono (HN1.out _) ?_; rintro e wz ⟨rfl, hE⟩; replace S := S.ext (Keep.of_below hE); clear hE) | (go_at_call 25; refine Calls.mono (HM1.out _) ?_; rintro e wz ⟨rfl, hE⟩; replace S := S.ext (Keep.of_below hE); clear hE) | (go_at_call 26; have hcz := fun w => HDA.out w; (with_reducible refine Calls.mono (hcz _) ?_); clear hcz; rintro e wz ⟨rfl, hE⟩; replace S := S.ext (Keep.of_below hE); clear hE) | (go_at_call 26; have hcz := fun w => HDB.out w; (with_reducible refine Calls.mono (hcz _) ?_); clear hcz; rintro e wz ⟨rfl, hE⟩; replace S := S.ext (Keep.of_below hE); clear hE) | (go_at_call 26; have hcz := fun w => HD1.out w; (with_reducible refine Calls.mono (hcz _) ?_); clear hcz; rintro e wz ⟨rfl, hE⟩; replace S := S.ext (Keep.of_below hE); clear hE) | ((with_reducible apply wps_sadd (T := 9)); (case hx | hy => rfl); (case hn => first | omega | (simp; omega))) | ((with_reducible refine tot_done ?ht ?_); (case ht => kernel_rfl)) | ((with_reducible apply wps_text S); (case hm => kernel_rfl); (case hB => decide +kernel); clear S; intro wz S) | ((with_reducible apply wps_alloca (E := 39) S); (case hz => exact Tryd.zeroValue39); clear S; intro bz wz S) | ((with_reducible apply wps_load S 0); (case hx | hi | hu => rfl); (case hT => decide +kernel)) | ((with_reducible apply wps_loada (T := 39) (k := 3) S 0); (case hx | hi => rfl); (case hk => exact Nat.le_of_ble_eq_true rfl); (case hT => decide +kernel))
                        go_roundw
                        case rel => refine ⟨k + 1, 0, _, by omega, by go_num, rfl, rfl, by omega, by omega, Lib.hid ?_, S⟩; rw [HQ4.out]; simp
                        case measure => first | (simp [intOf]; done) | (simp [intOf]; omega)
                  · have e1 : ¬ (1 : Int) < (n : Int) + 1 := by omega
                    have e2 : ¬ 0 < n := by omega
                    have HQ4 : Hid (tx = T ++ (NM ++ (32 :: A) ++ [] ++ [] ++ [10]) ++ rowsGo 0 (l.drop (k + 1))) := Lib.hid (by rw [HQ3.out, HRT.out, if_pos m0, if_neg m1, if_neg n1]; simp only [List.append_assoc])
                    clear HRT HQ3 m0 m1 n1 ha0 ha1 hb0 hb1
                    first
                      | (exfalso; omega)
                      | skip
                    all_goals
                      as_aux_lemma =>
                        go_wp2_with first | go_skip | ((with_reducible refine wpList_skip ?hw ?_); (case hw => with_unfolding_all rfl); simp only [Act.put, List.setIfInBounds_toArray, List.set_cons_succ, List.set_cons_zero]) | ((with_reducible apply wps_load_el S 0 (hj := HX.out) (q := 0) (u := .int .i64 d.what)); (case hx | hi => rfl); (case hn => omega); (case hu => rfl); (case hT => decide +kernel)) | ((with_reducible apply wps_load_el S 0 (hj := HX.out) (q := 1) (u := .int .i64 d.a)); (case hx | hi => rfl); (case hn => omega); (case hu => rfl); (case hT => decide +kernel)) | ((with_reducible apply wps_load_el S 0 (hj := HX.out) (q := 2) (u := .int .i64 d.b)); (case hx | hi => rfl); (case hn => omega); (case hu => rfl); (case hT => decide +kernel)) | (go_at_call 24; refine Calls.mono (HN1.out _) ?_; rintro e wz ⟨rfl, hE⟩; replace S := S.ext (Keep.of_below hE); clear hE) | (go_at_call 25; refine Calls.mono (HM1.out _) ?_; rintro e wz ⟨rfl, hE⟩; replace S := S.ext (Keep.of_below hE); clear hE) | (go_at_call 26; have hcz := fun w => HDA.out w; (with_reducible refine Calls.mono (hcz _) ?_); clear hcz; rintro e wz ⟨rfl, hE⟩; replace S := S.ext (Keep.of_below hE); clear hE) | (go_at_call 26; have hcz := fun w => HDB.out w; (with_reducible refine Calls.mono (hcz _) ?_); clear hcz; rintro e wz ⟨rfl, hE⟩; replace S := S.ext (Keep.of_below hE); clear hE) | (go_at_call 26; have hcz := fun w => HD1.out w; (with_reducible refine Calls.mono (hcz _) ?_); clear hcz; rintro e wz ⟨rfl, hE⟩; replace S := S.ext (Keep.of_below hE); clear hE) | ((with_reducible apply wps_sadd (T := 9)); (case hx | hy => rfl); (case hn => first | omega | (simp; omega))) | ((with_reducible refine tot_done ?ht ?_); (case ht => kernel_rfl)) | ((with_reducible apply wps_text S); (case hm => kernel_rfl); (case hB => decide +kernel); clear S; intro wz S) | ((with_reducible apply wps_alloca (E := 39) S); (case hz => exact Tryd.zeroValue39); clear S; intro bz wz S) | ((with_reducible apply wps_load S 0); (case hx | hi | hu => rfl); (case hT => decide +kernel)) | ((with_reducible apply wps_loada (T := 39) (k := 3) S 0); (case hx | hi => rfl); (case hk => exact Nat.le_of_ble_eq_true rfl); (case hT => decide +kernel))
                        go_roundw
                        case rel => refine ⟨k + 1, 0, _, by omega, by go_num, rfl, rfl, by omega, by omega, Lib.hid ?_, S⟩; rw [HQ4.out]; simp
                        case measure => first | (simp [intOf]; done) | (simp [intOf]; omega)
              · have c0 : ¬ (0 : Int) < mn := by omega
                have c1 : ¬ (1 : Int) < mn := by omega
                have HDA := HD1
                have HDB := HD1
                by_cases n1 : 1 < n + 1
                · have e1 : (1 : Int) < (n : Int) + 1 := by omega
                  have e2 : 0 < n := by omega
                  have HQ4 : Hid (tx = T ++ (NM ++ [] ++ [] ++ (32 :: 120 :: NN) ++ [10]) ++ rowsGo 0 (l.drop (k + 1))) := Lib.hid (by rw [HQ3.out, HRT.out, if_neg m0, if_neg (show ¬ 1 < mn by omega), if_pos n1]; simp only [List.append_assoc])
                  clear HRT HQ3 m0 n1 ha0 ha1 hb0 hb1
                  first
                    | (exfalso; omega)
                    | skip
                  all_goals
                    as_aux_lemma =>
                      go_wp2_with first | go_skip | ((with_reducible refine wpList_skip ?hw ?_); (case hw => with_unfolding_all rfl); simp only [Act.put, List.setIfInBounds_toArray, List.set_cons_succ, List.set_cons_zero]) | ((with_reducible apply wps_load_el S 0 (hj := HX.out) (q := 0) (u := .int .i64 d.what)); (case hx | hi => rfl); (case hn => omega); (case hu => rfl); (case hT => decide +kernel)) | ((with_reducible apply wps_load_el S 0 (hj := HX.out) (q := 1) (u := .int .i64 d.a)); (case hx | hi => rfl); (case hn => omega); (case hu => rfl); (case hT => decide +kernel)) | ((with_reducible apply wps_load_el S 0 (hj := HX.out) (q := 2) (u := .int .i64 d.b)); (case hx | hi => rfl); (case hn => omega); (case hu => rfl); (case hT => decide +kernel)) | (go_at_call 24; refine Calls.mono (HN1.out _) ?_; rintro e wz ⟨rfl, hE⟩; replace S := S.ext (Keep.of_below hE); clear hE) | (go_at_call 25; refine Calls.mono (HM1.out _) ?_; rintro e wz ⟨rfl, hE⟩; replace S := S.ext (Keep.of_below hE); clear hE) | (go_at_call 26; have hcz := fun w => HDA.out w; (with_reducible refine Calls.mono (hcz _) ?_); clear hcz; rintro e wz ⟨rfl, hE⟩; replace S := S.ext (Keep.of_below hE); clear hE) | (go_at_call 26; have hcz := fun w => HDB.out w; (with_reducible refine Calls.mono (hcz _) ?_); clear hcz; rintro e wz ⟨rfl, hE⟩; replace S := S.ext (Keep.of_below hE); clear hE) | (go_at_call 26; have hcz := fun w => HD1.out w; (with_reducible refine Calls.mono (hcz _) ?_); clear hcz; rintro e wz ⟨rfl, hE⟩; replace S := S.ext (Keep.of_below hE); clear hE) | ((with_reducible apply wps_sadd (T := 9)); (case hx | hy => rfl); (case hn => first | omega | (simp; omega))) | ((with_reducible refine tot_done ?ht ?_); (case ht => kernel_rfl)) | ((with_reducible apply wps_text S); (case hm => kernel_rfl); (case hB => decide +kernel); clear S; intro wz S) | ((with_reducible apply wps_alloca (E := 39) S); (case hz => exact Tryd.zeroValue39); clear S; intro bz wz S) | ((with_reducible apply wps_load S 0); (case hx | hi | hu => rfl); (case hT => decide +kernel)) | ((with_reducible apply wps_loada (T := 39) (k := 3) S 0); (case hx | hi => rfl); (case hk => exact Nat.le_of_ble_eq_true rfl); (case hT => decide +kernel))
                      go_roundw
                      case rel => refine ⟨k + 1, 0, _, by omega, by go_num, rfl, rfl, by omega, by omega, Lib.hid ?_, S⟩; rw [HQ4.out]; simp
                      case measure => first | (simp [intOf]; done) | (simp [intOf]; omega)
                · have e1 : ¬ (1 : Int) < (n : Int) + 1 := by omega
                  have e2 : ¬ 0 < n := by omega
                  have HQ4 : Hid (tx = T ++ (NM ++ [] ++ [] ++ [] ++ [10]) ++ rowsGo 0 (l.drop (k + 1))) := Lib.hid (by rw [HQ3.out, HRT.out, if_neg m0, if_neg (show ¬ 1 < mn by omega), if_neg n1]; simp only [List.append_assoc])
                  clear HRT HQ3 m0 n1 ha0 ha1 hb0 hb1
                  first
                    | (exfalso; omega)
                    | skip
                  all_goals
                    as_aux_lemma =>
                      go_wp2_with first | go_skip | ((with_reducible refine wpList_skip ?hw ?_); (case hw => with_unfolding_all rfl); simp only [Act.put, List.setIfInBounds_toArray, List.set_cons_succ, List.set_cons_zero]) | ((with_reducible apply wps_load_el S 0 (hj := HX.out) (q := 0) (u := .int .i64 d.what)); (case hx | hi => rfl); (case hn => omega); (case hu => rfl); (case hT => decide +kernel)) | ((with_reducible apply wps_load_el S 0 (hj := HX.out) (q := 1) (u := .int .i64 d.a)); (case hx | hi => rfl); (case hn => omega); (case hu => rfl); (case hT => decide +kernel)) | ((with_reducible apply wps_load_el S 0 (hj := HX.out) (q := 2) (u := .int .i64 d.b)); (case hx | hi => rfl); (case hn => omega); (case hu => rfl); (case hT => decide +kernel)) | (go_at_call 24; refine Calls.mono (HN1.out _) ?_; rintro e wz ⟨rfl, hE⟩; replace S := S.ext (Keep.of_below hE); clear hE) | (go_at_call 25; refine Calls.mono (HM1.out _) ?_; rintro e wz ⟨rfl, hE⟩; replace S := S.ext (Keep.of_below hE); clear hE) | (go_at_call 26; have hcz := fun w => HDA.out w; (with_reducible refine Calls.mono (hcz _) ?_); clear hcz; rintro e wz ⟨rfl, hE⟩; replace S := S.ext (Keep.of_below hE); clear hE) | (go_at_call 26; have hcz := fun w => HDB.out w; (with_reducible refine Calls.mono (hcz _) ?_); clear hcz; rintro e wz ⟨rfl, hE⟩; replace S := S.ext (Keep.of_below hE); clear hE) | (go_at_call 26; have hcz := fun w => HD1.out w; (with_reducible refine Calls.mono (hcz _) ?_); clear hcz; rintro e wz ⟨rfl, hE⟩; replace S := S.ext (Keep.of_below hE); clear hE) | ((with_reducible apply wps_sadd (T := 9)); (case hx | hy => rfl); (case hn => first | omega | (simp; omega))) | ((with_reducible refine tot_done ?ht ?_); (case ht => kernel_rfl)) | ((with_reducible apply wps_text S); (case hm => kernel_rfl); (case hB => decide +kernel); clear S; intro wz S) | ((with_reducible apply wps_alloca (E := 39) S); (case hz => exact Tryd.zeroValue39); clear S; intro bz wz S) | ((with_reducible apply wps_load S 0); (case hx | hi | hu => rfl); (case hT => decide +kernel)) | ((with_reducible apply wps_loada (T := 39) (k := 3) S 0); (case hx | hi => rfl); (case hk => exact Nat.le_of_ble_eq_true rfl); (case hT => decide +kernel))
                      go_roundw
                      case rel => refine ⟨k + 1, 0, _, by omega, by go_num, rfl, rfl, by omega, by omega, Lib.hid ?_, S⟩; rw [HQ4.out]; simp
                      case measure => first | (simp [intOf]; done) | (simp [intOf]; omega)
          · obtain rfl : k = l.length := by omega
            have HQ2 : Hid (tx = T) := Lib.hid (by have := HQ.out; rw [this, List.drop_length]; simp [rowsGo])
            rw [HQ2.out] at HR
            clear HQ HQ2
            go_wp2_with first | go_skip | ((with_reducible refine wpList_skip ?hw ?_); (case hw => with_unfolding_all rfl); simp only [Act.put, List.setIfInBounds_toArray, List.set_cons_succ, List.set_cons_zero]) | ((with_reducible refine tot_done ?ht ?_); (case ht => kernel_rfl)) | ((with_reducible apply wps_text S); (case hm => kernel_rfl); (case hB => decide +kernel); clear S; intro wz S) | ((with_reducible apply wps_alloca (E := 39) S); (case hz => exact Tryd.zeroValue39); clear S; intro bz wz S) | ((with_reducible apply wps_load S 0); (case hx | hi | hu => rfl); (case hT => decide +kernel)) | ((with_reducible apply wps_loada (T := 39) (k := 3) S 0); (case hx | hi => rfl); (case hk => exact Nat.le_of_ble_eq_true rfl); (case hT => decide +kernel))
            (try simp only [Exit.inBlock, Exit.then]); refine bodyPost_ret (results2 rfl (res_tmp rfl) (res_tmp rfl)) rfl ?_
            rw [HR.out]
            exact ⟨rfl, S.below⟩
end Go.Proofs.YtkcnbejpmknaoaaDoor

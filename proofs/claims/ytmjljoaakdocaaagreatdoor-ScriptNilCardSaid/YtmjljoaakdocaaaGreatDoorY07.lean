import Derived.Test.YtmjljoaakdocaaaGreatDoorY04
/- The walks of the reference's number, and of the script's number and numbers (chapter 21). -/
namespace Go.Proofs.YtmjljoaakdocaaaGreatDoor
open Go Go.RowKit Reg Mem

def icell (n : Int) : List Value := [.int .i64 n]
theorem icells : ∀ x, (icell x).length = 1 := fun _ => rfl
theorem ione : ∀ x, ∀ u ∈ icell x, u.oneCell' = true := fun x u hu => by
  simp only [icell, List.mem_singleton] at hu; subst hu; rfl
set_option maxRecDepth 100000 in
theorem elem_Int : Elem Tryz.prog 92 3 1 8 := ⟨_, .int .i64 0, Tryz.underlying92, rfl, by kernel_rfl, by kernel_rfl, by kernel_rfl, by kernel_rfl, by omega⟩
theorem bad_not {l : List UInt8} (h : badForm l = false) : l ≠ [] ∧ (¬ 1 < l.length ∨ l[0]? ≠ some 48) := by
  unfold badForm at h
  simp only [Bool.or_eq_false_iff, decide_eq_false_iff_not, Bool.and_eq_false_iff, List.head?_eq_getElem?] at h
  exact h
theorem num_form {l : List UInt8} (h : badForm l = true ∨ l.all digB = false) : numE l = (0, 15) := by unfold numE; rw [if_pos h]
theorem num_ok {l : List UInt8} (h : badForm l = false) (h2 : l.all digB = true) (h3 : valGo 0 l ≤ 4095) : numE l = (valGo 0 l, 0) := by
  unfold numE; rw [if_neg (by rw [h, h2]; simp), if_pos h3]
theorem num_range {l : List UInt8} (h : badForm l = false) (h2 : l.all digB = true) (h3 : ¬ valGo 0 l ≤ 4095) : numE l = (0, 10) := by
  unfold numE; rw [if_neg (by rw [h, h2]; simp), if_neg h3]
theorem all_not {l : List UInt8} {k : Nat} {x : UInt8} (hx : l[k]? = some x) (h : digB x = false) : l.all digB = false := by
  rw [Bool.eq_false_iff]
  intro e
  rw [List.all_eq_true] at e
  rw [e x (List.mem_of_getElem? hx)] at h
  cases h
theorem all_snoc {l : List UInt8} {k : Nat} {x : UInt8} (hx : l[k]? = some x) (h : digB x = true) (hk : (l.take k).all digB = true) : (l.take (k + 1)).all digB = true := by
  rw [List.take_add_one, hx, List.all_append, hk]; simp [h]
theorem dig_of {x : UInt8} (h : digB x = true) : 48 ≤ x.toNat ∧ x.toNat ≤ 57 := by simpa [digB] using h
theorem dig_not {x : UInt8} (h : digB x = false) : x.toNat < 48 ∨ (48 ≤ x.toNat ∧ 57 < x.toNat) := by
  simp only [digB, Bool.and_eq_false_iff, decide_eq_false_iff_not] at h
  omega
def NuRel (l : List UInt8) (w : World) (i : Value) (wr : World) (L : List Asn) : Prop :=
  ∃ k : Nat, k ≤ l.length ∧ i = .int .i64 k ∧ Hid ((l.take k).all digB = true) ∧ St (fun _ => False) w wr L
def NuRel2 (l : List UInt8) (w : World) (n i : Value) (wr : World) : Prop :=
  ∃ k : Nat, k ≤ l.length ∧ n = .int .i64 (capGo 0 (l.take k)) ∧ i = .int .i64 k ∧ Hid ((l.take k).all digB = true) ∧ St (fun _ => False) w wr []
set_option maxRecDepth 100000 in
set_option maxHeartbeats 8000000 in
theorem num_calls (tE : TypeId) (pE : Value) (l : List UInt8) (w : World) (F : Nat → Prop) (h : (LibA tE pE).at_ w F) (hn : l.length ≤ 4294967295) :
    Calls Tryz.prog 160 #[strV l] w fun e w' => e = .returned (.tuple #[.int .i64 (numE l).1, .int .i64 (numE l).2]) ∧ Below w.heap.size w w' := by
  have S : St (fun _ => False) w w [LibA tE pE] := (St.init _ w).share rfl rfl h
  clear h
  cases hb : badForm l with
  | true =>
    rw [num_form (.inl hb)]
    by_cases h0 : l = []
    · have H0 := Lib.hid h0
      clear h0 hb
      go_enter Tryz.func160, Tryz.ntmps160
      go_wp2_with first | go_skip | ((with_reducible refine wpList_skip ?hw ?_); (case hw => with_unfolding_all rfl); simp only [Act.put, List.setIfInBounds_toArray, List.set_cons_succ, List.set_cons_zero]) | ((with_reducible apply wps_seql (T := 9)); (case hx | hy => rfl); (case hb => exact decide_eq_true H0.out)) | ((with_reducible refine tot_done ?ht ?_); (case ht => kernel_rfl))
      (try simp only [Exit.inBlock, Exit.then]); refine bodyPost_ret (results2 rfl (res_tmp rfl) (res_tmp rfl)) rfl ?_
      exact ⟨rfl, S.below⟩
    · have h1 : 1 < l.length ∧ l[0]? = some 48 := by
        unfold badForm at hb
        rw [decide_eq_false h0] at hb
        simpa [List.head?_eq_getElem?] using hb
      have H0 := Lib.hid h0
      have H1 := Lib.hid h1.2
      have h2 : (1 : Int) < l.length := by omega
      clear h0 hb h1
      go_enter Tryz.func160, Tryz.ntmps160
      go_wp2_with first | go_skip | ((with_reducible refine wpList_skip ?hw ?_); (case hw => with_unfolding_all rfl); simp only [Act.put, List.setIfInBounds_toArray, List.set_cons_succ, List.set_cons_zero]) | ((with_reducible apply wps_seql (T := 9)); (case hx | hy => rfl); (case hb => exact decide_eq_false H0.out)) | ((with_reducible apply wps_slen (T := 9)); (case hx => rfl); (case hT => exact Tryz.underlying9)) | ((with_reducible apply wps_sidx (T := 9)); (case hx | hy => rfl); (case hb => exact H1.out); (case h0 => omega); (case hT => exact Tryz.underlying9); (case hz => rfl)) | ((with_reducible refine tot_done ?ht ?_); (case ht => kernel_rfl))
      (try simp only [Exit.inBlock, Exit.then]); refine bodyPost_ret (results2 rfl (res_tmp rfl) (res_tmp rfl)) rfl ?_
      exact ⟨rfl, S.below⟩
  | false =>
    obtain ⟨h0, h1⟩ := bad_not hb
    have H0 := Lib.hid h0
    have HB := Lib.hid hb
    have HE : Hid (∃ x, l[0]? = some x ∧ (¬ 1 < l.length ∨ ((x.toNat : Int) == 48) = false)) := Lib.hid (by
      refine ⟨l[0]'(List.length_pos_iff.2 h0), List.getElem?_eq_getElem _, ?_⟩
      rcases h1 with h1 | h1
      · exact .inl h1
      · refine .inr ?_
        have e := u8_is (l[0]'(List.length_pos_iff.2 h0)) 48 (by omega)
        rw [show ((48 : Int)) = ((48 : Nat) : Int) from rfl, e, beq_eq_false_iff_ne]
        intro e2; exact h1 ((List.getElem?_eq_getElem _).trans (congrArg some e2)))
    clear h0 h1 hb
    have HL : Hid (∀ k x, l[k]? = some x → digB x = false → numE l = (0, 15)) := Lib.hid fun k x hx hd => num_form (.inr (all_not hx hd))
    obtain ⟨x0, hx0, hc0⟩ := HE.out
    have HX0 := Lib.hid hx0
    clear hx0 HE
    have hl0 : 0 < l.length := (List.getElem?_eq_some_iff.1 HX0.out).1
    have hcase : ((1 : Int) < l.length ∧ ((x0.toNat : Int) == 48) = false) ∨ ¬ (1 : Int) < l.length := by
      by_cases h1 : 1 < l.length
      · rcases hc0 with h | h
        · exact absurd h1 h
        · exact .inl ⟨by omega, h⟩
      · exact .inr (by omega)
    clear hc0 hl0
    rcases hcase with ⟨c1, c2⟩ | c1
    · as_aux_lemma =>
        go_enter Tryz.func160, Tryz.ntmps160
        go_upto_region 3 with first | go_skip | ((with_reducible refine wpList_skip ?hw ?_); (case hw => with_unfolding_all rfl); simp only [Act.put, List.setIfInBounds_toArray, List.set_cons_succ, List.set_cons_zero]) | ((with_reducible apply wps_seql (T := 9)); (case hx | hy => rfl); (case hb => exact decide_eq_false H0.out)) | ((with_reducible apply wps_slen (T := 9)); (case hx => rfl); (case hT => exact Tryz.underlying9)) | ((with_reducible apply wps_sidx (T := 9)); (case hx | hy => rfl); (case hb => exact HX0.out); (case h0 => omega); (case hT => exact Tryz.underlying9); (case hz => rfl)) | ((with_reducible refine tot_done ?ht ?_); (case ht => kernel_rfl))
        clear c1
        go_wp2_with first | go_skip | ((with_reducible refine wpList_skip ?hw ?_); (case hw => with_unfolding_all rfl); simp only [Act.put, List.setIfInBounds_toArray, List.set_cons_succ, List.set_cons_zero]) | ((with_reducible apply wps_slen (T := 9)); (case hx => rfl); (case hT => exact Tryz.underlying9)) | ((with_reducible refine tot_done ?ht ?_); (case ht => kernel_rfl))
        go_loopw [21] (fun i wr => NuRel l w i wr [LibA tE pE]) (fun i _ => l.length - (intOf i).toNat)
        case atStart => exact ⟨0, Nat.zero_le _, rfl, Lib.hid rfl, S⟩
        case round =>
          clear S
          obtain ⟨k, hk, rfl, HK, S⟩ := hrel
          by_cases hlt : k < l.length
          · have hlt2 : (k : Int) < l.length := by omega
            obtain ⟨x, hx⟩ : ∃ x, l[k]? = some x := ⟨_, List.getElem?_eq_getElem hlt⟩
            have HX := Lib.hid hx
            cases hd : digB x with
            | true =>
              have HS := Lib.hid (all_snoc hx hd HK.out)
              obtain ⟨d1, d2⟩ := dig_of hd
              have e1 : ¬ ((x.toNat : Int) < 48) := by omega
              have e2 : ¬ ((57 : Int) < x.toNat) := by omega
              clear hx hd d1 d2
              go_wp2_with first | go_skip | ((with_reducible refine wpList_skip ?hw ?_); (case hw => with_unfolding_all rfl); simp only [Act.put, List.setIfInBounds_toArray, List.set_cons_succ, List.set_cons_zero]) | ((with_reducible apply wps_sidx (T := 9)); (case hx | hy => rfl); (case hb => exact HX.out); (case h0 => omega); (case hT => exact Tryz.underlying9); (case hz => rfl)) | ((with_reducible refine tot_done ?ht ?_); (case ht => kernel_rfl))
              go_roundw
              case rel => exact ⟨k + 1, by omega, by go_num, HS, S⟩
              case measure => first | (simp [intOf]; done) | (simp [intOf]; omega)
            | false =>
              have HF := Lib.hid (HL.out k x hx hd)
              rcases dig_not hd with d1 | ⟨d1, d2⟩
              · have e1 : (x.toNat : Int) < 48 := by omega
                clear hx hd d1
                go_wp2_with first | go_skip | ((with_reducible refine wpList_skip ?hw ?_); (case hw => with_unfolding_all rfl); simp only [Act.put, List.setIfInBounds_toArray, List.set_cons_succ, List.set_cons_zero]) | ((with_reducible apply wps_sidx (T := 9)); (case hx | hy => rfl); (case hb => exact HX.out); (case h0 => omega); (case hT => exact Tryz.underlying9); (case hz => rfl)) | ((with_reducible refine tot_done ?ht ?_); (case ht => kernel_rfl))
                (try simp only [Exit.inBlock, Exit.then]); refine bodyPost_ret (results2 rfl (res_tmp rfl) (res_tmp rfl)) rfl ?_
                rw [HF.out]
                exact ⟨rfl, S.below⟩
              · have e1 : ¬ ((x.toNat : Int) < 48) := by omega
                have e2 : (57 : Int) < x.toNat := by omega
                clear hx hd d1 d2
                go_wp2_with first | go_skip | ((with_reducible refine wpList_skip ?hw ?_); (case hw => with_unfolding_all rfl); simp only [Act.put, List.setIfInBounds_toArray, List.set_cons_succ, List.set_cons_zero]) | ((with_reducible apply wps_sidx (T := 9)); (case hx | hy => rfl); (case hb => exact HX.out); (case h0 => omega); (case hT => exact Tryz.underlying9); (case hz => rfl)) | ((with_reducible refine tot_done ?ht ?_); (case ht => kernel_rfl))
                (try simp only [Exit.inBlock, Exit.then]); refine bodyPost_ret (results2 rfl (res_tmp rfl) (res_tmp rfl)) rfl ?_
                rw [HF.out]
                exact ⟨rfl, S.below⟩
          · obtain rfl : k = l.length := by omega
            have hall := HK.out
            rw [List.take_length] at hall
            rcases atoi_digits hall H0.out with ha | ⟨ha, hv⟩
            · have HA := Lib.hid (fun w => atoi_ok l (valGo 0 l) w (by omega) ha)
              by_cases hv : valGo 0 l ≤ 4095
              · have HR := Lib.hid (num_ok HB.out hall hv)
                have e1 : ¬ ((4095 : Int) < valGo 0 l) := by omega
                generalize valGo 0 l = v at *
                clear ha hall hv
                go_wp2_with first | go_skip | ((with_reducible refine wpList_skip ?hw ?_); (case hw => with_unfolding_all rfl); simp only [Act.put, List.setIfInBounds_toArray, List.set_cons_succ, List.set_cons_zero]) | (go_at_call 194; refine Calls.mono (HA.out _) ?_; rintro e wz ⟨rfl, hE⟩; replace S := S.ext (Keep.of_below hE); clear hE) | ((with_reducible refine tot_done ?ht ?_); (case ht => kernel_rfl))
                (try simp only [Exit.inBlock, Exit.then]); refine bodyPost_ret (results2 rfl (res_tmp rfl) (res_tmp rfl)) rfl ?_
                rw [HR.out]
                exact ⟨rfl, S.below⟩
              · have HR := Lib.hid (num_range HB.out hall hv)
                have e1 : (4095 : Int) < valGo 0 l := by omega
                generalize valGo 0 l = v at *
                clear ha hall hv
                go_wp2_with first | go_skip | ((with_reducible refine wpList_skip ?hw ?_); (case hw => with_unfolding_all rfl); simp only [Act.put, List.setIfInBounds_toArray, List.set_cons_succ, List.set_cons_zero]) | (go_at_call 194; refine Calls.mono (HA.out _) ?_; rintro e wz ⟨rfl, hE⟩; replace S := S.ext (Keep.of_below hE); clear hE) | ((with_reducible refine tot_done ?ht ?_); (case ht => kernel_rfl))
                (try simp only [Exit.inBlock, Exit.then]); refine bodyPost_ret (results2 rfl (res_tmp rfl) (res_tmp rfl)) rfl ?_
                rw [HR.out]
                exact ⟨rfl, S.below⟩
            · have HR := Lib.hid (num_range HB.out hall (by omega))
              have HA := Lib.hid (fun w F h => atoi_range tE pE l w F h (by omega) ha)
              clear ha hall hv
              go_wp2_with first | go_skip | ((with_reducible refine wpList_skip ?hw ?_); (case hw => with_unfolding_all rfl); simp only [Act.put, List.setIfInBounds_toArray, List.set_cons_succ, List.set_cons_zero]) | (go_at_call 194; refine Calls.mono (HA.out _ _ (S.get (i := 0) rfl).choose_spec) ?_; rintro e wz ⟨z, N, rfl, hE⟩; replace S := S.ext (Keep.of_below hE); clear hE) | ((with_reducible refine tot_done ?ht ?_); (case ht => kernel_rfl))
              (try simp only [Exit.inBlock, Exit.then]); refine bodyPost_ret (results2 rfl (res_tmp rfl) (res_tmp rfl)) rfl ?_
              rw [HR.out]
              exact ⟨rfl, S.below⟩
    · as_aux_lemma =>
        go_enter Tryz.func160, Tryz.ntmps160
        go_upto_region 3 with first | go_skip | ((with_reducible refine wpList_skip ?hw ?_); (case hw => with_unfolding_all rfl); simp only [Act.put, List.setIfInBounds_toArray, List.set_cons_succ, List.set_cons_zero]) | ((with_reducible apply wps_seql (T := 9)); (case hx | hy => rfl); (case hb => exact decide_eq_false H0.out)) | ((with_reducible apply wps_slen (T := 9)); (case hx => rfl); (case hT => exact Tryz.underlying9)) | ((with_reducible apply wps_sidx (T := 9)); (case hx | hy => rfl); (case hb => exact HX0.out); (case h0 => omega); (case hT => exact Tryz.underlying9); (case hz => rfl)) | ((with_reducible refine tot_done ?ht ?_); (case ht => kernel_rfl))
        clear c1
        go_wp2_with first | go_skip | ((with_reducible refine wpList_skip ?hw ?_); (case hw => with_unfolding_all rfl); simp only [Act.put, List.setIfInBounds_toArray, List.set_cons_succ, List.set_cons_zero]) | ((with_reducible apply wps_slen (T := 9)); (case hx => rfl); (case hT => exact Tryz.underlying9)) | ((with_reducible refine tot_done ?ht ?_); (case ht => kernel_rfl))
        go_loopw [21] (fun i wr => NuRel l w i wr [LibA tE pE]) (fun i _ => l.length - (intOf i).toNat)
        case atStart => exact ⟨0, Nat.zero_le _, rfl, Lib.hid rfl, S⟩
        case round =>
          clear S
          obtain ⟨k, hk, rfl, HK, S⟩ := hrel
          by_cases hlt : k < l.length
          · have hlt2 : (k : Int) < l.length := by omega
            obtain ⟨x, hx⟩ : ∃ x, l[k]? = some x := ⟨_, List.getElem?_eq_getElem hlt⟩
            have HX := Lib.hid hx
            cases hd : digB x with
            | true =>
              have HS := Lib.hid (all_snoc hx hd HK.out)
              obtain ⟨d1, d2⟩ := dig_of hd
              have e1 : ¬ ((x.toNat : Int) < 48) := by omega
              have e2 : ¬ ((57 : Int) < x.toNat) := by omega
              clear hx hd d1 d2
              go_wp2_with first | go_skip | ((with_reducible refine wpList_skip ?hw ?_); (case hw => with_unfolding_all rfl); simp only [Act.put, List.setIfInBounds_toArray, List.set_cons_succ, List.set_cons_zero]) | ((with_reducible apply wps_sidx (T := 9)); (case hx | hy => rfl); (case hb => exact HX.out); (case h0 => omega); (case hT => exact Tryz.underlying9); (case hz => rfl)) | ((with_reducible refine tot_done ?ht ?_); (case ht => kernel_rfl))
              go_roundw
              case rel => exact ⟨k + 1, by omega, by go_num, HS, S⟩
              case measure => first | (simp [intOf]; done) | (simp [intOf]; omega)
            | false =>
              have HF := Lib.hid (HL.out k x hx hd)
              rcases dig_not hd with d1 | ⟨d1, d2⟩
              · have e1 : (x.toNat : Int) < 48 := by omega
                clear hx hd d1
                go_wp2_with first | go_skip | ((with_reducible refine wpList_skip ?hw ?_); (case hw => with_unfolding_all rfl); simp only [Act.put, List.setIfInBounds_toArray, List.set_cons_succ, List.set_cons_zero]) | ((with_reducible apply wps_sidx (T := 9)); (case hx | hy => rfl); (case hb => exact HX.out); (case h0 => omega); (case hT => exact Tryz.underlying9); (case hz => rfl)) | ((with_reducible refine tot_done ?ht ?_); (case ht => kernel_rfl))
                (try simp only [Exit.inBlock, Exit.then]); refine bodyPost_ret (results2 rfl (res_tmp rfl) (res_tmp rfl)) rfl ?_
                rw [HF.out]
                exact ⟨rfl, S.below⟩
              · have e1 : ¬ ((x.toNat : Int) < 48) := by omega
                have e2 : (57 : Int) < x.toNat := by omega
                clear hx hd d1 d2
                go_wp2_with first | go_skip | ((with_reducible refine wpList_skip ?hw ?_); (case hw => with_unfolding_all rfl); simp only [Act.put, List.setIfInBounds_toArray, List.set_cons_succ, List.set_cons_zero]) | ((with_reducible apply wps_sidx (T := 9)); (case hx | hy => rfl); (case hb => exact HX.out); (case h0 => omega); (case hT => exact Tryz.underlying9); (case hz => rfl)) | ((with_reducible refine tot_done ?ht ?_); (case ht => kernel_rfl))
                (try simp only [Exit.inBlock, Exit.then]); refine bodyPost_ret (results2 rfl (res_tmp rfl) (res_tmp rfl)) rfl ?_
                rw [HF.out]
                exact ⟨rfl, S.below⟩
          · obtain rfl : k = l.length := by omega
            have hall := HK.out
            rw [List.take_length] at hall
            rcases atoi_digits hall H0.out with ha | ⟨ha, hv⟩
            · have HA := Lib.hid (fun w => atoi_ok l (valGo 0 l) w (by omega) ha)
              by_cases hv : valGo 0 l ≤ 4095
              · have HR := Lib.hid (num_ok HB.out hall hv)
                have e1 : ¬ ((4095 : Int) < valGo 0 l) := by omega
                generalize valGo 0 l = v at *
                clear ha hall hv
                go_wp2_with first | go_skip | ((with_reducible refine wpList_skip ?hw ?_); (case hw => with_unfolding_all rfl); simp only [Act.put, List.setIfInBounds_toArray, List.set_cons_succ, List.set_cons_zero]) | (go_at_call 194; refine Calls.mono (HA.out _) ?_; rintro e wz ⟨rfl, hE⟩; replace S := S.ext (Keep.of_below hE); clear hE) | ((with_reducible refine tot_done ?ht ?_); (case ht => kernel_rfl))
                (try simp only [Exit.inBlock, Exit.then]); refine bodyPost_ret (results2 rfl (res_tmp rfl) (res_tmp rfl)) rfl ?_
                rw [HR.out]
                exact ⟨rfl, S.below⟩
              · have HR := Lib.hid (num_range HB.out hall hv)
                have e1 : (4095 : Int) < valGo 0 l := by omega
                generalize valGo 0 l = v at *
                clear ha hall hv
                go_wp2_with first | go_skip | ((with_reducible refine wpList_skip ?hw ?_); (case hw => with_unfolding_all rfl); simp only [Act.put, List.setIfInBounds_toArray, List.set_cons_succ, List.set_cons_zero]) | (go_at_call 194; refine Calls.mono (HA.out _) ?_; rintro e wz ⟨rfl, hE⟩; replace S := S.ext (Keep.of_below hE); clear hE) | ((with_reducible refine tot_done ?ht ?_); (case ht => kernel_rfl))
                (try simp only [Exit.inBlock, Exit.then]); refine bodyPost_ret (results2 rfl (res_tmp rfl) (res_tmp rfl)) rfl ?_
                rw [HR.out]
                exact ⟨rfl, S.below⟩
            · have HR := Lib.hid (num_range HB.out hall (by omega))
              have HA := Lib.hid (fun w F h => atoi_range tE pE l w F h (by omega) ha)
              clear ha hall hv
              go_wp2_with first | go_skip | ((with_reducible refine wpList_skip ?hw ?_); (case hw => with_unfolding_all rfl); simp only [Act.put, List.setIfInBounds_toArray, List.set_cons_succ, List.set_cons_zero]) | (go_at_call 194; refine Calls.mono (HA.out _ _ (S.get (i := 0) rfl).choose_spec) ?_; rintro e wz ⟨z, N, rfl, hE⟩; replace S := S.ext (Keep.of_below hE); clear hE) | ((with_reducible refine tot_done ?ht ?_); (case ht => kernel_rfl))
              (try simp only [Exit.inBlock, Exit.then]); refine bodyPost_ret (results2 rfl (res_tmp rfl) (res_tmp rfl)) rfl ?_
              rw [HR.out]
              exact ⟨rfl, S.below⟩
def wrong10 (l : List (List UInt8)) : Int := if l.any (fun w => (numE w).2 == 10) then 10 else 0
theorem wrong_snoc {l : List (List UInt8)} {k : Nat} {x : List UInt8} (hx : l[k]? = some x) : wrong10 (l.take (k + 1)) = if (numE x).2 = 10 then 10 else wrong10 (l.take k) := by
  unfold wrong10
  rw [List.take_add_one, hx, List.any_append]
  by_cases h : (numE x).2 = 10
  · rw [if_pos h]; simp [h]
  · rw [if_neg h]
    simp [h]
def NsRel (ad : Option Addr) (cp : Nat) (tE : TypeId) (pE : Value) (l : List (List UInt8)) (w : World) (out wr10 i : Value) (wr : World) : Prop :=
  ∃ k : Nat, k ≤ l.length ∧ i = .int .i64 k ∧ wr10 = .int .i64 (wrong10 (l.take k)) ∧ Hid (∀ x ∈ l.take k, (numE x).2 ≠ 15) ∧
    St (fun _ => False) w wr [Own 3 icell 1 out ((l.take k).map fun x => ((numE x).1 : Int)), Sl true strcell 1 (.slice ad l.length cp) l, LibA tE pE]
def NumsPost (l : List (List UInt8)) (w : World) (e : Ending) (w' : World) : Prop :=
  (numsE l ≠ 0 ∧ e = .returned (.tuple #[.slice none 0 0, .int .i64 (numsE l)]) ∧ Below w.heap.size w w') ∨
  (numsE l = 0 ∧ ∃ a c, e = .returned (.tuple #[.slice a l.length c, .int .i64 0]) ∧ St (fun _ => False) w w' [Own 3 icell 1 (.slice a l.length c) (l.map fun x => ((numE x).1 : Int))])
theorem nums_form {l : List (List UInt8)} {k : Nat} {x : List UInt8} (hx : l[k]? = some x) (h : (numE x).2 = 15) : numsE l = 15 := by
  unfold numsE
  rw [if_pos (List.any_eq_true.2 ⟨x, List.mem_of_getElem? hx, by rw [h]; rfl⟩)]
theorem nums_else {l : List (List UInt8)} (h : ∀ x ∈ l, (numE x).2 ≠ 15) : numsE l = wrong10 l := by
  unfold numsE wrong10
  rw [if_neg (by
    rw [List.any_eq_true]
    rintro ⟨x, hx, e⟩
    exact h x hx (by simpa using e))]
set_option maxRecDepth 100000 in
set_option maxHeartbeats 8000000 in
theorem nums_calls (tE : TypeId) (pE : Value) (v : Value) (l : List (List UInt8)) (w : World) (F F2 : Nat → Prop) (h : (Sl true strcell 1 v l).at_ w F) (h2 : (LibA tE pE).at_ w F2) (hn : l.length ≤ 65536) (hs : ∀ x ∈ l, x.length ≤ 4294967295) :
    Calls Tryz.prog 120 #[v] w (NumsPost l w) := by
  have S : St (fun _ => False) w w [Sl true strcell 1 v l, LibA tE pE] := ((St.init _ w).share (A := LibA tE pE) rfl rfl h2).share (A := Sl true strcell 1 v l) rfl rfl h
  obtain ⟨ad, cp, rfl, _⟩ := (S.sl 0 rfl).elim fun _ h => h.form
  clear h h2
  have HS := Lib.hid hs
  clear hs
  replace S := S.nil 3 icell 1
  go_enter Tryz.func120, Tryz.ntmps120
  go_wp2_with first | ((with_reducible refine tot_done ?ht ?_); (case ht => kernel_rfl)) | ((with_reducible apply wps_load S 0); (case hx | hi | hu => rfl); (case hT => decide +kernel))
  go_loopw [4, 5, 12] (fun out wr10 i wr => NsRel ad cp tE pE l w out wr10 i wr) (fun _ _ i _ => l.length - (intOf i).toNat)
  case atStart => exact ⟨0, Nat.zero_le _, rfl, rfl, Lib.hid (by simp), S⟩
  case round =>
    clear S
    obtain ⟨k, hk, rfl, rfl, HK, S⟩ := hrel
    obtain ⟨ao, co, rfl, _⟩ := (S.ownsl icells 0 rfl).elim fun _ h => h.form
    by_cases hlt : k < l.length
    · have hlt2 : (k : Int) < l.length := by omega
      obtain ⟨R, o, rfl⟩ : ∃ R o, ad = some ⟨R, o, none⟩ := (S.sl 1 rfl).elim fun F h => h.head (by omega)
      obtain ⟨x, hx⟩ : ∃ x, l[k]? = some x := ⟨_, List.getElem?_eq_getElem hlt⟩
      have HX := Lib.hid hx
      have hxl := HS.out x (List.mem_of_getElem? hx)
      have HW := Lib.hid (wrong_snoc hx)
      have HM : Hid (((l.take k).map fun x => ((numE x).1 : Int)) ++ [((numE x).1 : Int)] = (l.take (k + 1)).map fun x => ((numE x).1 : Int)) := Lib.hid (by rw [List.take_add_one, hx, List.map_append]; rfl)
      have HN : Hid (∀ w F, (LibA tE pE).at_ w F → Calls Tryz.prog 160 #[strV x] w fun e w' => e = .returned (.tuple #[.int .i64 (numE x).1, .int .i64 (numE x).2]) ∧ Below w.heap.size w w') := Lib.hid fun w F h => num_calls tE pE x w F h hxl
      have hkl : ((l.take k).map fun x => ((numE x).1 : Int)).length < 4294967296 := by simp; omega
      rcases numE_err x with e0 | e0 | e0
      · have HA : Hid (∀ y ∈ l.take (k + 1), (numE y).2 ≠ 15) := Lib.hid fun y hy => by
          rw [List.take_add_one, hx] at hy
          rcases List.mem_append.1 hy with h | h
          · exact HK.out y h
          · simp at h; subst h; rw [e0]; decide
        have HW2 : Hid (wrong10 (l.take (k + 1)) = wrong10 (l.take k)) := Lib.hid (by rw [HW.out, e0]; rfl)
        rw [e0] at HN
        clear HW HK hx e0 hxl
        generalize wrong10 (l.take k) = wq at *
        generalize ((l.take k).map fun x => ((numE x).1 : Int)) = outl at *
        generalize ((numE x).1 : Int) = z at *
        go_wp2_with first | ((with_reducible apply wps_load_el S 1 (hj := HX.out) (q := 0) (u := strV x)); (case hx | hi => rfl); (case hn => omega); (case hu => rfl); (case hT => decide +kernel)) | (go_at_call 160; refine Calls.mono (HN.out _ _ (S.get (i := 2) rfl).choose_spec) ?_; rintro e wz ⟨rfl, hE⟩; replace S := S.ext (Keep.of_below hE); clear hE) | ((with_reducible apply wps_build11 (T := 92) (E := 3) S); (case hx => rfl); (case hr => intro w; kernel_rfl); clear S; intro bz wz S) | ((with_reducible apply wps_append1 elem_Int icells ione (by decide) S 1 (j := 0) (e := z)); (case hx | hy | hi | hj | he => rfl); (case hl => first | omega | (simp; omega)); clear S; intro az nz cz wz hnz S; simp only [List.set_cons_succ, List.set_cons_zero] at S) | ((with_reducible refine tot_done ?ht ?_); (case ht => kernel_rfl)) | ((with_reducible apply wps_load S 0); (case hx | hi | hu => rfl); (case hT => decide +kernel))
        go_roundw
        case rel => exact ⟨k + 1, by omega, by go_num, by rw [HW2.out], HA, by rw [← HM.out]; exact S.pick [1, 2, 3] rfl⟩
        case measure => first | (simp [intOf]; done) | (simp [intOf]; omega)
      · have HA : Hid (∀ y ∈ l.take (k + 1), (numE y).2 ≠ 15) := Lib.hid fun y hy => by
          rw [List.take_add_one, hx] at hy
          rcases List.mem_append.1 hy with h | h
          · exact HK.out y h
          · simp at h; subst h; rw [e0]; decide
        have HW2 : Hid (wrong10 (l.take (k + 1)) = 10) := Lib.hid (by rw [HW.out, e0]; rfl)
        rw [e0] at HN
        clear HW HK hx e0 hxl
        generalize wrong10 (l.take k) = wq at *
        generalize ((l.take k).map fun x => ((numE x).1 : Int)) = outl at *
        generalize ((numE x).1 : Int) = z at *
        go_wp2_with first | ((with_reducible apply wps_load_el S 1 (hj := HX.out) (q := 0) (u := strV x)); (case hx | hi => rfl); (case hn => omega); (case hu => rfl); (case hT => decide +kernel)) | (go_at_call 160; refine Calls.mono (HN.out _ _ (S.get (i := 2) rfl).choose_spec) ?_; rintro e wz ⟨rfl, hE⟩; replace S := S.ext (Keep.of_below hE); clear hE) | ((with_reducible apply wps_build11 (T := 92) (E := 3) S); (case hx => rfl); (case hr => intro w; kernel_rfl); clear S; intro bz wz S) | ((with_reducible apply wps_append1 elem_Int icells ione (by decide) S 1 (j := 0) (e := z)); (case hx | hy | hi | hj | he => rfl); (case hl => first | omega | (simp; omega)); clear S; intro az nz cz wz hnz S; simp only [List.set_cons_succ, List.set_cons_zero] at S) | ((with_reducible refine tot_done ?ht ?_); (case ht => kernel_rfl)) | ((with_reducible apply wps_load S 0); (case hx | hi | hu => rfl); (case hT => decide +kernel))
        go_roundw
        case rel => exact ⟨k + 1, by omega, by go_num, by rw [HW2.out], HA, by rw [← HM.out]; exact S.pick [1, 2, 3] rfl⟩
        case measure => first | (simp [intOf]; done) | (simp [intOf]; omega)
      · have HF := Lib.hid (nums_form hx e0)
        rw [e0] at HN
        clear HW HM hx e0 hxl hkl
        generalize wrong10 (l.take k) = wq at *
        generalize ((l.take k).map fun x => ((numE x).1 : Int)) = outl at *
        generalize ((numE x).1 : Int) = z at *
        go_wp2_with first | ((with_reducible apply wps_load_el S 1 (hj := HX.out) (q := 0) (u := strV x)); (case hx | hi => rfl); (case hn => omega); (case hu => rfl); (case hT => decide +kernel)) | (go_at_call 160; refine Calls.mono (HN.out _ _ (S.get (i := 2) rfl).choose_spec) ?_; rintro e wz ⟨rfl, hE⟩; replace S := S.ext (Keep.of_below hE); clear hE) | ((with_reducible refine tot_done ?ht ?_); (case ht => kernel_rfl)) | ((with_reducible apply wps_load S 0); (case hx | hi | hu => rfl); (case hT => decide +kernel))
        (try simp only [Exit.inBlock, Exit.then]); refine bodyPost_ret (results2 rfl (res_tmp rfl) (res_tmp rfl)) rfl ?_
        exact .inl ⟨by rw [HF.out]; decide, by rw [HF.out]; rfl, S.below⟩
    · obtain rfl : k = l.length := by omega
      have hall := HK.out
      rw [List.take_length] at hall S
      have HQ := Lib.hid (nums_else hall)
      rw [List.take_length]
      have hl : (l.map fun x => ((numE x).1 : Int)).length = l.length := List.length_map _
      by_cases h10 : wrong10 l = 0
      · rw [h10]
        have HZ := Lib.hid h10
        clear hall h10
        rw [hl] at S ⊢
        clear hl
        go_wp2_with first | ((with_reducible refine tot_done ?ht ?_); (case ht => kernel_rfl)) | ((with_reducible apply wps_load S 0); (case hx | hi | hu => rfl); (case hT => decide +kernel))
        (try simp only [Exit.inBlock, Exit.then]); refine bodyPost_ret (results2 rfl (res_tmp rfl) (res_tmp rfl)) rfl ?_
        exact .inr ⟨by rw [HQ.out, HZ.out], _, _, rfl, S.pick [0] rfl⟩
      · have h10' : wrong10 l = 10 := by unfold wrong10 at *; split at h10 <;> simp_all
        rw [h10']
        have HZ := Lib.hid h10'
        clear hall h10 h10' hl
        go_wp2_with first | ((with_reducible refine tot_done ?ht ?_); (case ht => kernel_rfl)) | ((with_reducible apply wps_load S 0); (case hx | hi | hu => rfl); (case hT => decide +kernel))
        (try simp only [Exit.inBlock, Exit.then]); refine bodyPost_ret (results2 rfl (res_tmp rfl) (res_tmp rfl)) rfl ?_
        exact .inl ⟨by rw [HQ.out, HZ.out]; decide, by rw [HQ.out, HZ.out]; rfl, S.below⟩
end Go.Proofs.YtmjljoaakdocaaaGreatDoor

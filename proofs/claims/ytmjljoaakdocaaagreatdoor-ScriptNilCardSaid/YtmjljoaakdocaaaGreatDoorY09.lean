import Derived.Test.YtmjljoaakdocaaaGreatDoorY08
/- The walk of the script's line (chapter 21). -/
namespace Go.Proofs.YtmjljoaakdocaaaGreatDoor
open Go Go.RowKit Reg Mem

def fmcell (x : List UInt8 × Nat) : List Value := [strV x.1, .int .i64 x.2]
def formsL : List (List UInt8 × Nat) := [([115, 116, 101, 112], 1), ([100, 101, 108, 105, 118, 101, 114], 2), ([114, 111, 117, 110, 100], 0), ([99, 97, 110, 99, 101, 108], 1)]
theorem forms_len : formsL.length = 4 := rfl
def FormsT : Asn := Sl true fmcell 2 (.slice (some ⟨0, 0, none⟩) 4 4) formsL
theorem forms_many {k : Nat} {x : List UInt8 × Nat} (h : formsL[k]? = some x) : x.2 = manyE k := by
  have hk : k < 4 := by have := (List.getElem?_eq_some_iff.1 h).1; exact this
  rcases (by omega : k = 0 ∨ k = 1 ∨ k = 2 ∨ k = 3) with rfl | rfl | rfl | rfl <;> (simp only [formsL, List.getElem?_cons_zero, List.getElem?_cons_succ, Option.some.injEq] at h; subst h; rfl)
theorem kind_at {w : List UInt8} {k : Nat} (h : ∀ j x, j < k → formsL[j]? = some x → x.1 ≠ w) (hk : k = 4 ∨ ∃ x, formsL[k]? = some x ∧ x.1 = w) (hk4 : k ≤ 4) : kindE w = k := by
  have g : ∀ j (hj : j < k) (x : List UInt8 × Nat), formsL[j]? = some x → w ≠ x.1 := fun j hj x hx => fun e => h j x hj hx e.symm
  unfold kindE
  rcases hk with rfl | ⟨x, hx, rfl⟩
  · rw [if_neg (g 0 (by omega) _ rfl), if_neg (g 1 (by omega) _ rfl), if_neg (g 2 (by omega) _ rfl), if_neg (g 3 (by omega) _ rfl)]
  · have hk : k < 4 := (List.getElem?_eq_some_iff.1 hx).1
    rcases (by omega : k = 0 ∨ k = 1 ∨ k = 2 ∨ k = 3) with rfl | rfl | rfl | rfl <;> (simp only [formsL, List.getElem?_cons_zero, List.getElem?_cons_succ, Option.some.injEq] at hx; subst hx; rfl)
def lineT (k : Nat) (W : List UInt8) (T : List (List UInt8)) : DoE × Nat × Int :=
  if k = 4 ∨ T.length ≠ manyE k then (⟨0, 0, 0⟩, 0, 15)
  else if numsE (W :: T) ≠ 0 then (⟨0, 0, 0⟩, 0, numsE (W :: T))
  else if (numE W).1 = 0 then (⟨0, 0, 0⟩, 0, 10)
  else (⟨k, nthE T 0, nthE T 1⟩, (numE W).1, 0)
theorem line_cons (w : List UInt8) (f : List (List UInt8)) : lineE (w :: f) = lineT (kindE w) (timesW f) (toldL f) := rfl
theorem x_yes {f : List (List UInt8)} {t : List UInt8} (h : f.getLast? = some t) (hx : t.head? = some 120) : toldL f = f.dropLast ∧ timesW f = t.tail := by
  have e : xB f = true := by unfold xB; rw [h]; exact decide_eq_true hx
  unfold toldL timesW
  rw [if_pos e, if_pos e, h]; exact ⟨rfl, rfl⟩
theorem x_no {f : List (List UInt8)} {t : List UInt8} (h : f.getLast? = some t) (hx : t.head? ≠ some 120) : toldL f = f ∧ timesW f = [49] := by
  have e : xB f = false := by unfold xB; rw [h]; exact decide_eq_false hx
  unfold toldL timesW
  rw [e]; exact ⟨rfl, rfl⟩
theorem Mem.St.ownOne {α : Type} {b : Nat} {cs : Array Value} {E : TypeId} {G : Nat → Prop} {w0 w : World} {L : List Asn} (S : St G w0 w (Blk false b cs E :: L)) (enc : α → List Value) (k : Nat) (x : α) (hc : cs = (enc x).toArray) (hk : (enc x).length = k) : St G w0 w (Own E enc k (.slice (some ⟨b, 0, none⟩) 1 1) [x] :: L) := by
  subst hc
  have := S.same (i := 0) (A' := Own E enc k (.slice (some ⟨b, 0, none⟩) 1 1) [x]) rfl (fun F h => ⟨⟨by simp [flatE, hk], .inr ⟨b, 1, _, rfl, Nat.zero_le _, h.1, Nat.le_refl _, by simp [maxLen], by simp [hk], by simp [flatE]; exact List.take_of_length_le (by omega)⟩⟩, fun x => by rw [h.2 x]; simp [Value.ownBlock, eq_comm]⟩) rfl
  simpa using this
def WhRel (w0 : List UInt8) (w : World) (i : Value) (L : List Asn) (wr : World) : Prop :=
  ∃ k : Nat, k ≤ 4 ∧ i = .int .i64 k ∧ Hid (∀ j x, j < k → formsL[j]? = some x → x.1 ≠ w0) ∧ St (fun _ => False) w wr L
set_option maxRecDepth 100000 in
set_option maxHeartbeats 16000000 in
theorem line_calls (tE : TypeId) (pE : Value) (l : List UInt8) (w : World) (F F2 : Nat → Prop) (h : (LibA tE pE).at_ w F) (h2 : FormsT.at_ w F2) (hn : l.length ≤ 65536) :
    Calls Tryz.prog 75 #[strV l] w fun e w' => e = .returned (.tuple #[.agg #[.int .i64 (lineE (wordsOf l)).1.what, .int .i64 (lineE (wordsOf l)).1.a, .int .i64 (lineE (wordsOf l)).1.b], .int .i64 (lineE (wordsOf l)).2.1, .int .i64 (lineE (wordsOf l)).2.2]) ∧ Below w.heap.size w w' := by
  have S : St (fun _ => False) w w [LibA tE pE, FormsT] := ((St.init _ w).share (A := FormsT) rfl rfl h2).share (A := LibA tE pE) rfl rfl h
  clear h h2
  have hh : ((splitGo 35 [] l).headD []).length ≤ l.length := by
    obtain ⟨x, r, e⟩ := split_cons 35 l []
    rw [e]
    have := split_size 35 l [] x (by rw [e]; exact List.mem_cons_self)
    simpa using this
  have HW : Hid (wordsOf l = wordsGo [] ((splitGo 35 [] l).headD [])) := Lib.hid rfl
  have HWS : Hid (∀ x ∈ wordsOf l, x.length ≤ 65536) := Lib.hid fun x hx => by have h9 := words_size _ [] x hx; simp only [List.length_nil] at h9; omega
  have HWN : Hid (∀ x ∈ wordsOf l, x ≠ []) := Lib.hid fun x hx => words_ne _ _ x hx
  have HWL : Hid ((wordsOf l).length ≤ 65537) := Lib.hid (by have := words_len ((splitGo 35 [] l).headD []) []; rw [HW.out]; omega)
  have HC := Lib.hid (fun w F h => cut_calls tE pE l w F h (by omega))
  generalize (splitGo 35 [] l).headD [] = l1 at *
  have HF := Lib.hid (fun w => ff_calls l1 w (by omega))
  rw [← HW.out] at HF
  generalize wordsOf l = ws at *
  clear HW hh
  go_enter Tryz.func75, Tryz.ntmps75
  go_upto_region 3 with first | go_skip | ((with_reducible refine wpList_skip ?hw ?_); (case hw => with_unfolding_all rfl); simp only [Act.put, List.setIfInBounds_toArray, List.set_cons_succ, List.set_cons_zero]) | (go_at_call 116; refine Calls.mono (HC.out _ _ (S.get (i := 1) rfl).choose_spec) ?_; rintro e wz ⟨rq, bq, rfl, hE⟩; replace S := S.ext (Keep.of_below hE); clear hE) | (go_at_call 117; refine Calls.mono (HF.out _) ?_; rintro e wz ⟨aw, cw, rfl, T⟩; replace S := S.join T rfl; clear T; simp only [List.cons_append, List.nil_append] at S) | ((with_reducible refine tot_done ?ht ?_); (case ht => kernel_rfl)) | ((with_reducible apply wps_text S); (case hm => kernel_rfl); (case hB => decide +kernel); clear S; intro wz S) | ((with_reducible apply wps_alloca (E := 23) S); (case hz => exact Tryz.zeroValue23); clear S; intro bz wz S) | ((with_reducible apply wps_load S 0); (case hx | hi | hu => rfl); (case hT => decide +kernel)) | ((with_reducible apply wps_loada (T := 23) (k := 3) S 0); (case hx | hi => rfl); (case hk => exact Nat.le_of_ble_eq_true rfl); (case hT => decide +kernel))
  replace S := S.freeze true 0 strcells rfl
  simp only [List.set_cons_zero] at S
  cases ws with
  | nil =>
    as_aux_lemma =>
      go_wp2_with first | go_skip | ((with_reducible refine wpList_skip ?hw ?_); (case hw => with_unfolding_all rfl); simp only [Act.put, List.setIfInBounds_toArray, List.set_cons_succ, List.set_cons_zero]) | ((with_reducible apply wps_storea (T := 23) S 1 (vs := [.int .i64 0, .int .i64 0, .int .i64 0]) (m := 3)); (case hx | hy | hi | hm | h1 => rfl); (case hn => exact Nat.le_of_ble_eq_true rfl); (case hT => decide +kernel); clear S; intro wz S; simp only [List.set_cons_zero, List.set_cons_succ, setAll, List.setIfInBounds_toArray] at S) | ((with_reducible refine tot_done ?ht ?_); (case ht => kernel_rfl)) | ((with_reducible apply wps_text S); (case hm => kernel_rfl); (case hB => decide +kernel); clear S; intro wz S) | ((with_reducible apply wps_alloca (E := 23) S); (case hz => exact Tryz.zeroValue23); clear S; intro bz wz S) | ((with_reducible apply wps_load S 0); (case hx | hi | hu => rfl); (case hT => decide +kernel)) | ((with_reducible apply wps_loada (T := 23) (k := 3) S 0); (case hx | hi => rfl); (case hk => exact Nat.le_of_ble_eq_true rfl); (case hT => decide +kernel)) | ((with_reducible apply wps_load S 1); (case hx | hi | hu => rfl); (case hT => decide +kernel)) | ((with_reducible apply wps_loada (T := 23) (k := 3) S 1); (case hx | hi => rfl); (case hk => exact Nat.le_of_ble_eq_true rfl); (case hT => decide +kernel))
      (try simp only [Exit.inBlock, Exit.then]); refine bodyPost_ret (results3 rfl (S.resA 1 rfl rfl (by kernel_rfl)) (res_tmp rfl) (res_tmp rfl)) rfl ?_
      exact ⟨rfl, S.below⟩
  | cons w0 f =>
    obtain ⟨Rw, ow, rfl⟩ : ∃ R o, aw = some ⟨R, o, none⟩ := (S.sl 0 rfl).elim fun F h => h.head (by simp)
    have hfl : f.length ≤ 65536 := by have := HWL.out; simp at this; omega
    have hne : (((w0 :: f).length : Int) == 0) = false := by rw [beq_eq_false_iff_ne]; simp; omega
    have H0 : Hid ((w0 :: f)[0]? = some w0) := Lib.hid rfl
    have HL : Hid ((w0 :: f).length = f.length + 1) := Lib.hid (by simp)
    have HTK : Hid (((w0 :: f).take (f.length + 1)).drop 1 = f) := Lib.hid (by rw [List.take_of_length_le (by simp)]; rfl)
    rw [HL.out] at hne S ⊢
    obtain ⟨wn, HWN1⟩ : ∃ n, Hid (f.length + 1 = n) := ⟨_, Lib.hid rfl⟩
    rw [HWN1.out] at hne S HTK ⊢
    have hwn1 : wn ≤ f.length + 1 := by have := HWN1.out; omega
    have hwn2 : f.length + 1 ≤ wn := by have := HWN1.out; omega
    clear HL
    go_upto_region 6 with first | go_skip | ((with_reducible refine wpList_skip ?hw ?_); (case hw => with_unfolding_all rfl); simp only [Act.put, List.setIfInBounds_toArray, List.set_cons_succ, List.set_cons_zero]) | ((with_reducible refine tot_done ?ht ?_); (case ht => kernel_rfl)) | ((with_reducible apply wps_text S); (case hm => kernel_rfl); (case hB => decide +kernel); clear S; intro wz S) | ((with_reducible apply wps_alloca (E := 23) S); (case hz => exact Tryz.zeroValue23); clear S; intro bz wz S) | ((with_reducible apply wps_load S 0); (case hx | hi | hu => rfl); (case hT => decide +kernel)) | ((with_reducible apply wps_loada (T := 23) (k := 3) S 0); (case hx | hi => rfl); (case hk => exact Nat.le_of_ble_eq_true rfl); (case hT => decide +kernel)) | ((with_reducible apply wps_load S 1); (case hx | hi | hu => rfl); (case hT => decide +kernel)) | ((with_reducible apply wps_loada (T := 23) (k := 3) S 1); (case hx | hi => rfl); (case hk => exact Nat.le_of_ble_eq_true rfl); (case hT => decide +kernel))
    go_loopw [6] (fun i wr => WhRel w0 w i _ wr) (fun i _ => 4 - (intOf i).toNat)
    case atStart => exact ⟨0, by omega, rfl, Lib.hid (by intro j x hj; omega), S⟩
    case round =>
      clear S
      obtain ⟨k, hk, rfl, HK, S⟩ := hrel
      by_cases hk4 : k < 4
      · obtain ⟨fm, hfm⟩ : ∃ x, formsL[k]? = some x := ⟨_, List.getElem?_eq_getElem (by rw [forms_len]; exact hk4)⟩
        have HFM := Lib.hid hfm
        have hk5 : (k : Int) < 4 := by omega
        by_cases hq : fm.1 = w0
        · have HK2 : Hid (kindE w0 = k) := Lib.hid (kind_at HK.out (.inr ⟨fm, hfm, hq⟩) hk)
          have HQ0 : Hid (fm.1 = w0) := Lib.hid hq
          clear hfm hq HK
          go_upto_region 6 with fail
          (refine wp_region_w (soft := [0, 1, 2, 3, 4, 5, 6, 7, 8, 9, 10, 11]) S ?hm ?hB ?_); (case hm => kernel_rfl); (case hB => decide +kernel); clear S
          iterate 12
            (with_reducible apply softs_cons)
            (case hw =>
              (with_reducible apply soft_of); (case hi => rfl)
              intro T wz S
              simp only [List.cons_append, List.nil_append] at S
              go_wp2_with first | go_skip | ((with_reducible apply wps_load_el S 3 (hj := HFM.out) (q := 0) (u := strV fm.1)); (case hx | hi => rfl); (case hn => omega); (case hu => rfl); (case hT => decide +kernel)) | ((with_reducible apply wps_load_el S 0 (hj := H0.out) (q := 0) (u := strV w0)); (case hx | hi => rfl); (case hn => omega); (case hu => rfl); (case hT => decide +kernel)) | ((with_reducible apply wps_sneq (T := 9)); (case hx | hy => rfl); (case hb => exact decide_eq_false (fun q => q HQ0.out))) | ((with_reducible refine tot_done ?ht ?_); (case ht => kernel_rfl)) | ((with_reducible apply wps_alloca (E := 23) S); (case hz => exact Tryz.zeroValue23); clear S; intro bz wz S) | ((with_reducible apply wps_load S 0); (case hx | hi | hu => rfl); (case hT => decide +kernel)) | ((with_reducible apply wps_loada (T := 23) (k := 3) S 0); (case hx | hi => rfl); (case hk => exact Nat.le_of_ble_eq_true rfl); (case hT => decide +kernel))
              exact ⟨rfl, S⟩)
            (case hs => exact ⟨_, rfl, by kernel_rfl⟩)
          refine softs_nil ?_
          (with_reducible apply W_done); (case hn => rfl); (case hr => decide +kernel)
          intro wz S
          simp only [List.append_nil] at S
          have HQ0 : Hid (lineE (w0 :: f) = lineT k (timesW f) (toldL f)) := Lib.hid (by rw [line_cons, HK2.out])
          go_upto_region 11 with first | go_skip | ((with_reducible refine wpList_skip ?hw ?_); (case hw => with_unfolding_all rfl); simp only [Act.put, List.setIfInBounds_toArray, List.set_cons_succ, List.set_cons_zero]) | ((with_reducible apply wps_slice (E := 9) S 0 (l := 1) (u := wn)); (case hx | hi => rfl); (case hT => exact Tryz.underlying174); (case hE => intro w; kernel_rfl); (case hlo | hhi => first | exact .inr rfl | exact .inl ⟨rfl, rfl⟩); (case h1 | h2 => first | omega | (simp; omega)); clear S; intro az nz cz hnz S) | ((with_reducible refine tot_done ?ht ?_); (case ht => kernel_rfl)) | ((with_reducible apply wps_text S); (case hm => kernel_rfl); (case hB => decide +kernel); clear S; intro wz S) | ((with_reducible apply wps_alloca (E := 23) S); (case hz => exact Tryz.zeroValue23); clear S; intro bz wz S) | ((with_reducible apply wps_load S 0); (case hx | hi | hu => rfl); (case hT => decide +kernel)) | ((with_reducible apply wps_loada (T := 23) (k := 3) S 0); (case hx | hi => rfl); (case hk => exact Nat.le_of_ble_eq_true rfl); (case hT => decide +kernel)) | ((with_reducible apply wps_load S 1); (case hx | hi | hu => rfl); (case hT => decide +kernel)) | ((with_reducible apply wps_loada (T := 23) (k := 3) S 1); (case hx | hi => rfl); (case hk => exact Nat.le_of_ble_eq_true rfl); (case hT => decide +kernel))
          obtain rfl : nz = f.length := by rw [hnz.out]; omega
          rw [HTK.out] at S
          clear HK2
          by_cases hf0 : f = []
          · have HQ : Hid (∀ T, T = [] → lineE (w0 :: f) = lineT k [49] T) := Lib.hid (by intro T hT; rw [HQ0.out, hf0, hT]; rfl)
            rw [hf0, List.length_nil] at S
            have hfl0 : f.length = 0 := by rw [hf0]; rfl
            rw [hfl0]
            clear HQ0 hf0 hfl0
            go_upto_region 13 with first | go_skip | ((with_reducible refine wpList_skip ?hw ?_); (case hw => with_unfolding_all rfl); simp only [Act.put, List.setIfInBounds_toArray, List.set_cons_succ, List.set_cons_zero]) | ((with_reducible refine tot_done ?ht ?_); (case ht => kernel_rfl)) | ((with_reducible apply wps_text S); (case hm => kernel_rfl); (case hB => decide +kernel); clear S; intro wz S) | ((with_reducible apply wps_alloca (E := 23) S); (case hz => exact Tryz.zeroValue23); clear S; intro bz wz S) | ((with_reducible apply wps_load S 0); (case hx | hi | hu => rfl); (case hT => decide +kernel)) | ((with_reducible apply wps_loada (T := 23) (k := 3) S 0); (case hx | hi => rfl); (case hk => exact Nat.le_of_ble_eq_true rfl); (case hT => decide +kernel)) | ((with_reducible apply wps_load S 1); (case hx | hi | hu => rfl); (case hT => decide +kernel)) | ((with_reducible apply wps_loada (T := 23) (k := 3) S 1); (case hx | hi => rfl); (case hk => exact Nat.le_of_ble_eq_true rfl); (case hT => decide +kernel))
            obtain ⟨T, hT⟩ : ∃ T : List (List UInt8), T = [] := ⟨_, rfl⟩
            replace HQ := Lib.hid (HQ.out T hT)
            have HT : Hid (T.length = 0) := Lib.hid (by rw [hT]; rfl)
            have HSZ2 : Hid (∀ x ∈ [[49]] ++ T, x.length ≤ 4294967295) := Lib.hid (by rw [hT]; intro x hx; simp at hx; subst hx; simp)
            rw [← hT] at S
            clear hT
            -- T: thing 0 (.slice az 0 cz); W: [49]; tn: 0
            replace S := S.pick [0, 2, 3, 4] rfl
            simp only [pick, nth] at S
            have hTl := HT.out
            by_cases hk4 : k = 4
            · have HR : Hid (lineE (w0 :: f) = (⟨0, 0, 0⟩, 0, 15)) := Lib.hid (by rw [HQ.out]; unfold lineT; rw [if_pos (.inl hk4)])
              subst hk4
              clear hTl
              as_aux_lemma =>
                go_wp2_with first | go_skip | ((with_reducible refine wpList_skip ?hw ?_); (case hw => with_unfolding_all rfl); simp only [Act.put, List.setIfInBounds_toArray, List.set_cons_succ, List.set_cons_zero]) | ((with_reducible apply wps_storea (T := 23) S 1 (vs := [.int .i64 0, .int .i64 0, .int .i64 0]) (m := 3)); (case hx | hy | hi | hm | h1 => rfl); (case hn => exact Nat.le_of_ble_eq_true rfl); (case hT => decide +kernel); clear S; intro wz S; simp only [List.set_cons_zero, List.set_cons_succ, setAll, List.setIfInBounds_toArray] at S) | ((with_reducible refine tot_done ?ht ?_); (case ht => kernel_rfl)) | ((with_reducible apply wps_text S); (case hm => kernel_rfl); (case hB => decide +kernel); clear S; intro wz S) | ((with_reducible apply wps_alloca (E := 23) S); (case hz => exact Tryz.zeroValue23); clear S; intro bz wz S) | ((with_reducible apply wps_load S 0); (case hx | hi | hu => rfl); (case hT => decide +kernel)) | ((with_reducible apply wps_loada (T := 23) (k := 3) S 0); (case hx | hi => rfl); (case hk => exact Nat.le_of_ble_eq_true rfl); (case hT => decide +kernel)) | ((with_reducible apply wps_load S 1); (case hx | hi | hu => rfl); (case hT => decide +kernel)) | ((with_reducible apply wps_loada (T := 23) (k := 3) S 1); (case hx | hi => rfl); (case hk => exact Nat.le_of_ble_eq_true rfl); (case hT => decide +kernel))
                (try simp only [Exit.inBlock, Exit.then]); refine bodyPost_ret (results3 rfl (S.resA 1 rfl rfl (by kernel_rfl)) (res_tmp rfl) (res_tmp rfl)) rfl ?_
                rw [HR.out]
                exact ⟨rfl, S.below⟩
            · have hk5 : k < 4 := by omega
              obtain ⟨fm, hfm⟩ : ∃ x, formsL[k]? = some x := ⟨_, List.getElem?_eq_getElem (by rw [forms_len]; exact hk5)⟩
              have HFM := Lib.hid hfm
              have hk6 : ((k : Int) == 4) = false := by rw [beq_eq_false_iff_ne]; omega
              have HFK := Lib.hid (forms_many hfm)
              clear hfm
              by_cases hml : T.length = manyE k
              · have hml2 : (((0 : Nat) : Int) != (fm.2 : Int)) = false := by
                  rw [bne_eq_false_iff_eq, HFK.out, ← hml, hTl]
                have HTL : Hid (T.length ≤ 2) := Lib.hid (by rw [hml]; unfold manyE; split; omega; split <;> omega)
                have HNM : Hid (lineE (w0 :: f) = if numsE (([49]) :: T) ≠ 0 then (⟨0, 0, 0⟩, 0, numsE (([49]) :: T)) else if (numE ([49])).1 = 0 then (⟨0, 0, 0⟩, 0, 10) else (⟨k, nthE T 0, nthE T 1⟩, (numE ([49])).1, 0)) := Lib.hid (by
                  rw [HQ.out]; unfold lineT; rw [if_neg (by rw [hml]; simp; omega)])
                have hln3 : T.length ≤ 2 := HTL.out
                have hln4 : 0 ≤ 2 := by omega
                have HNUM : Hid (∀ v w F F2, (Sl true strcell 1 v ([[49]] ++ T)).at_ w F → (LibA tE pE).at_ w F2 → Calls Tryz.prog 120 #[v] w (NumsPost ([[49]] ++ T) w)) := Lib.hid fun v w F F2 h h2 => nums_calls tE pE v _ w F F2 h h2 (by simp; omega) HSZ2.out
                clear hml hTl HTL
                as_aux_lemma =>
                  go_upto_region 16 with first | go_skip | ((with_reducible refine wpList_skip ?hw ?_); (case hw => with_unfolding_all rfl); simp only [Act.put, List.setIfInBounds_toArray, List.set_cons_succ, List.set_cons_zero]) | ((with_reducible apply wps_load_el S 3 (hj := HFM.out) (q := 1) (u := .int .i64 fm.2)); (case hx | hi => rfl); (case hn => omega); (case hu => rfl); (case hT => decide +kernel)) | ((with_reducible apply wps_build11 (T := 174) (E := 9) S); (case hx => rfl); (case hr => intro w; kernel_rfl); clear S; intro bz wz S; replace S := S.ownOne strcell 1 ([49]) rfl rfl) | ((with_reducible apply wps_appends elem_Str strcells strone (by decide) S 0 (j := 1)); (case hx | hy | hi | hj => rfl); (case hl => first | omega | (simp; omega)); clear S; intro az nz cz wz hnz S; simp only [List.set_cons_zero] at S) | ((with_reducible refine tot_done ?ht ?_); (case ht => kernel_rfl)) | ((with_reducible apply wps_text S); (case hm => kernel_rfl); (case hB => decide +kernel); clear S; intro wz S) | ((with_reducible apply wps_alloca (E := 23) S); (case hz => exact Tryz.zeroValue23); clear S; intro bz wz S) | ((with_reducible apply wps_load S 0); (case hx | hi | hu => rfl); (case hT => decide +kernel)) | ((with_reducible apply wps_loada (T := 23) (k := 3) S 0); (case hx | hi => rfl); (case hk => exact Nat.le_of_ble_eq_true rfl); (case hT => decide +kernel)) | ((with_reducible apply wps_load S 1); (case hx | hi | hu => rfl); (case hT => decide +kernel)) | ((with_reducible apply wps_loada (T := 23) (k := 3) S 1); (case hx | hi => rfl); (case hk => exact Nat.le_of_ble_eq_true rfl); (case hT => decide +kernel))
                  refine Calls.mono (HNUM.out _ _ _ _ (own_sl (sh := true) strcells (S.get (i := 0) rfl).choose_spec) (S.get (i := 3) rfl).choose_spec) ?_
                  clear HNUM
                  rintro e wz (⟨hne2, rfl, hE⟩ | ⟨hz2, ai, ci, rfl, TI⟩)
                  · replace S := S.ext (Keep.of_below hE)
                    have HR : Hid (lineE (w0 :: f) = (⟨0, 0, 0⟩, 0, numsE ([[49]] ++ T))) := Lib.hid (by rw [HNM.out]; exact if_pos hne2)
                    have hne3 : (numsE ([[49]] ++ T) != 0) = true := by rw [bne_iff_ne]; exact hne2
                    clear hE hne2 HNM
                    generalize numsE ([[49]] ++ T) = en at *
                    go_wp2_with first | go_skip | ((with_reducible refine wpList_skip ?hw ?_); (case hw => with_unfolding_all rfl); simp only [Act.put, List.setIfInBounds_toArray, List.set_cons_succ, List.set_cons_zero]) | ((with_reducible apply wps_storea (T := 23) S 2 (vs := [.int .i64 0, .int .i64 0, .int .i64 0]) (m := 3)); (case hx | hy | hi | hm | h1 => rfl); (case hn => exact Nat.le_of_ble_eq_true rfl); (case hT => decide +kernel); clear S; intro wz S; simp only [List.set_cons_zero, List.set_cons_succ, setAll, List.setIfInBounds_toArray] at S) | ((with_reducible refine tot_done ?ht ?_); (case ht => kernel_rfl)) | ((with_reducible apply wps_text S); (case hm => kernel_rfl); (case hB => decide +kernel); clear S; intro wz S) | ((with_reducible apply wps_alloca (E := 23) S); (case hz => exact Tryz.zeroValue23); clear S; intro bz wz S) | ((with_reducible apply wps_load S 0); (case hx | hi | hu => rfl); (case hT => decide +kernel)) | ((with_reducible apply wps_loada (T := 23) (k := 3) S 0); (case hx | hi => rfl); (case hk => exact Nat.le_of_ble_eq_true rfl); (case hT => decide +kernel)) | ((with_reducible apply wps_load S 1); (case hx | hi | hu => rfl); (case hT => decide +kernel)) | ((with_reducible apply wps_loada (T := 23) (k := 3) S 1); (case hx | hi => rfl); (case hk => exact Nat.le_of_ble_eq_true rfl); (case hT => decide +kernel))
                    (try simp only [Exit.inBlock, Exit.then]); refine bodyPost_ret (results3 rfl (S.resA 2 rfl rfl (by kernel_rfl)) (res_tmp rfl) (res_tmp rfl)) rfl ?_
                    rw [HR.out]
                    exact ⟨rfl, S.below⟩
                  · replace S := S.join TI rfl
                    simp only [List.cons_append, List.nil_append] at S
                    clear TI
                    obtain ⟨Ri, ci2, eqi⟩ := sown_hd 0 S rfl (by simp)
                    simp only [Value.slice.injEq] at eqi
                    obtain ⟨rfl, _, rfl⟩ := eqi
                    have H0I : Hid ((([49] :: T).map fun x => ((numE x).1 : Int))[0]? = some ((numE ([49])).1 : Int)) := Lib.hid rfl
                    by_cases hz0 : (numE ([49])).1 = 0
                    · have HR : Hid (lineE (w0 :: f) = (⟨0, 0, 0⟩, 0, 10)) := Lib.hid (by rw [HNM.out, if_neg (fun q => q hz2), if_pos hz0])
                      have hz3 : (((numE ([49])).1 : Int) == 0) = true := by rw [hz0]; rfl
                      clear HNM hz0 hz2
                      generalize ((numE ([49])).1 : Int) = z at *
                      go_wp2_with first | go_skip | ((with_reducible refine wpList_skip ?hw ?_); (case hw => with_unfolding_all rfl); simp only [Act.put, List.setIfInBounds_toArray, List.set_cons_succ, List.set_cons_zero]) | ((with_reducible apply wps_load_own icells S 0 (hj := H0I.out) (q := 0) (u := .int .i64 z)); (case hx | hi => rfl); (case hn => omega); (case hu => rfl); (case hT => decide +kernel)) | ((with_reducible apply wps_storea (T := 23) S 3 (vs := [.int .i64 0, .int .i64 0, .int .i64 0]) (m := 3)); (case hx | hy | hi | hm | h1 => rfl); (case hn => exact Nat.le_of_ble_eq_true rfl); (case hT => decide +kernel); clear S; intro wz S; simp only [List.set_cons_zero, List.set_cons_succ, setAll, List.setIfInBounds_toArray] at S) | ((with_reducible refine tot_done ?ht ?_); (case ht => kernel_rfl)) | ((with_reducible apply wps_text S); (case hm => kernel_rfl); (case hB => decide +kernel); clear S; intro wz S) | ((with_reducible apply wps_alloca (E := 23) S); (case hz => exact Tryz.zeroValue23); clear S; intro bz wz S) | ((with_reducible apply wps_load S 0); (case hx | hi | hu => rfl); (case hT => decide +kernel)) | ((with_reducible apply wps_loada (T := 23) (k := 3) S 0); (case hx | hi => rfl); (case hk => exact Nat.le_of_ble_eq_true rfl); (case hT => decide +kernel)) | ((with_reducible apply wps_load S 1); (case hx | hi | hu => rfl); (case hT => decide +kernel)) | ((with_reducible apply wps_loada (T := 23) (k := 3) S 1); (case hx | hi => rfl); (case hk => exact Nat.le_of_ble_eq_true rfl); (case hT => decide +kernel))
                      (try simp only [Exit.inBlock, Exit.then]); refine bodyPost_ret (results3 rfl (S.resA 3 rfl rfl (by kernel_rfl)) (res_tmp rfl) (res_tmp rfl)) rfl ?_
                      rw [HR.out]
                      exact ⟨rfl, S.below⟩
                    · have HR : Hid (lineE (w0 :: f) = (⟨k, nthE T 0, nthE T 1⟩, (numE ([49])).1, 0)) := Lib.hid (by rw [HNM.out, if_neg (fun q => q hz2), if_neg hz0])
                      have hz3 : (((numE ([49])).1 : Int) == 0) = false := by rw [beq_eq_false_iff_ne]; omega
                      clear HNM hz0 hz2
                      generalize (numE ([49])).1 = zn at *
                      rcases T with _ | ⟨a, T⟩
                      · clear HSZ2
                        go_upto_region 25 with first | go_skip | ((with_reducible refine wpList_skip ?hw ?_); (case hw => with_unfolding_all rfl); simp only [Act.put, List.setIfInBounds_toArray, List.set_cons_succ, List.set_cons_zero]) | ((with_reducible apply wps_load_own icells S 0 (hj := H0I.out) (q := 0) (u := .int .i64 (zn : Int))); (case hx | hi => rfl); (case hn => omega); (case hu => rfl); (case hT => decide +kernel)) | ((with_reducible apply wps_alloca (E := 23) S); (case hz => exact Tryz.zeroValue23); clear S; intro bd wz S) | ((with_reducible apply wps_storea (T := 23) S 0 (vs := [.int .i64 k, .int .i64 0, .int .i64 0]) (m := 3)); (case hx | hy | hi | hm | h1 => rfl); (case hn => exact Nat.le_of_ble_eq_true rfl); (case hT => decide +kernel); clear S; intro wz S; simp only [List.set_cons_zero, List.set_cons_succ, setAll, List.setIfInBounds_toArray] at S) | ((with_reducible refine tot_done ?ht ?_); (case ht => kernel_rfl)) | ((with_reducible apply wps_text S); (case hm => kernel_rfl); (case hB => decide +kernel); clear S; intro wz S) | ((with_reducible apply wps_alloca (E := 23) S); (case hz => exact Tryz.zeroValue23); clear S; intro bz wz S) | ((with_reducible apply wps_load S 0); (case hx | hi | hu => rfl); (case hT => decide +kernel)) | ((with_reducible apply wps_loada (T := 23) (k := 3) S 0); (case hx | hi => rfl); (case hk => exact Nat.le_of_ble_eq_true rfl); (case hT => decide +kernel)) | ((with_reducible apply wps_load S 1); (case hx | hi | hu => rfl); (case hT => decide +kernel)) | ((with_reducible apply wps_loada (T := 23) (k := 3) S 1); (case hx | hi => rfl); (case hk => exact Nat.le_of_ble_eq_true rfl); (case hT => decide +kernel))
                        replace S := S.pick [0, 1, 4] rfl
                        simp only [pick, nth] at S
                        (refine wp_region_wt (soft := [0, 1, 2, 3]) (L := [_, _]) (T := [_]) S ?hm ?hB ?_); (case hm => kernel_rfl); (case hB => decide +kernel); clear S
                        iterate 4
                          (with_reducible apply softs_cons)
                          (case hw =>
                            (with_reducible apply soft_of); (case hi => rfl)
                            intro T wz S
                            simp only [List.cons_append, List.nil_append] at S
                            go_wp2_with first | go_skip | ((with_reducible apply wps_loada (T := 23) (k := 3) S 0); (case hx | hi => rfl); (case hk => exact Nat.le_of_ble_eq_true rfl); (case hT => decide +kernel)) | ((with_reducible apply wps_load_own icells S 1 (hj := H0I.out) (q := 0) (u := .int .i64 (zn : Int))); (case hx | hi => rfl); (case hn => omega); (case hu => rfl); (case hT => decide +kernel)) | ((with_reducible apply wps_storea (T := 23) S 2 (vs := [.int .i64 k, .int .i64 0, .int .i64 0]) (m := 3)); (case hx | hy | hi | hm | h1 => rfl); (case hn => exact Nat.le_of_ble_eq_true rfl); (case hT => decide +kernel); clear S; intro wz S; simp only [List.set_cons_zero, List.set_cons_succ, setAll, List.setIfInBounds_toArray] at S) | ((with_reducible refine tot_done ?ht ?_); (case ht => kernel_rfl)) | ((with_reducible apply wps_alloca (E := 23) S); (case hz => exact Tryz.zeroValue23); clear S; intro bz wz S) | ((with_reducible apply wps_load S 0); (case hx | hi | hu => rfl); (case hT => decide +kernel)) | ((with_reducible apply wps_loada (T := 23) (k := 3) S 0); (case hx | hi => rfl); (case hk => exact Nat.le_of_ble_eq_true rfl); (case hT => decide +kernel))
                            exact ⟨rfl, S⟩)
                          (case hs => exact ⟨_, rfl, by kernel_rfl⟩)
                        refine softs_nil ?_
                        (with_reducible apply W_hard1 (i := 4)); (case hn => rfl); (case hr => decide +kernel)
                        intro wz S
                        (with_reducible apply hard_of); (case hi => rfl)
                        simp only [List.cons_append, List.nil_append] at S
                        go_wp2_with first | go_skip | ((with_reducible apply wps_loada (T := 23) (k := 3) S 0); (case hx | hi => rfl); (case hk => exact Nat.le_of_ble_eq_true rfl); (case hT => decide +kernel)) | ((with_reducible apply wps_load_own icells S 1 (hj := H0I.out) (q := 0) (u := .int .i64 (zn : Int))); (case hx | hi => rfl); (case hn => omega); (case hu => rfl); (case hT => decide +kernel)) | ((with_reducible apply wps_storea (T := 23) S 2 (vs := [.int .i64 k, .int .i64 0, .int .i64 0]) (m := 3)); (case hx | hy | hi | hm | h1 => rfl); (case hn => exact Nat.le_of_ble_eq_true rfl); (case hT => decide +kernel); clear S; intro wz S; simp only [List.set_cons_zero, List.set_cons_succ, setAll, List.setIfInBounds_toArray] at S) | ((with_reducible refine tot_done ?ht ?_); (case ht => kernel_rfl)) | ((with_reducible apply wps_alloca (E := 23) S); (case hz => exact Tryz.zeroValue23); clear S; intro bz wz S) | ((with_reducible apply wps_load S 0); (case hx | hi | hu => rfl); (case hT => decide +kernel)) | ((with_reducible apply wps_loada (T := 23) (k := 3) S 0); (case hx | hi => rfl); (case hk => exact Nat.le_of_ble_eq_true rfl); (case hT => decide +kernel))
                        refine ⟨_, S, ?_⟩
                        clear S
                        (refine W_mid (f := 0) (soft := [5, 6]) rfl ?hB ?_); (case hB => decide +kernel)
                        iterate 2
                          (with_reducible apply softs_cons)
                          (case hw =>
                            (with_reducible apply soft_of); (case hi => rfl)
                            intro T wz S
                            simp only [List.cons_append, List.nil_append] at S
                            go_wp2_with first | go_skip | ((with_reducible apply wps_loada (T := 23) (k := 3) S 0); (case hx | hi => rfl); (case hk => exact Nat.le_of_ble_eq_true rfl); (case hT => decide +kernel)) | ((with_reducible apply wps_load_own icells S 1 (hj := H0I.out) (q := 0) (u := .int .i64 (zn : Int))); (case hx | hi => rfl); (case hn => omega); (case hu => rfl); (case hT => decide +kernel)) | ((with_reducible apply wps_storea (T := 23) S 2 (vs := [.int .i64 k, .int .i64 0, .int .i64 0]) (m := 3)); (case hx | hy | hi | hm | h1 => rfl); (case hn => exact Nat.le_of_ble_eq_true rfl); (case hT => decide +kernel); clear S; intro wz S; simp only [List.set_cons_zero, List.set_cons_succ, setAll, List.setIfInBounds_toArray] at S) | ((with_reducible refine tot_done ?ht ?_); (case ht => kernel_rfl)) | ((with_reducible apply wps_alloca (E := 23) S); (case hz => exact Tryz.zeroValue23); clear S; intro bz wz S) | ((with_reducible apply wps_load S 0); (case hx | hi | hu => rfl); (case hT => decide +kernel)) | ((with_reducible apply wps_loada (T := 23) (k := 3) S 0); (case hx | hi => rfl); (case hk => exact Nat.le_of_ble_eq_true rfl); (case hT => decide +kernel))
                            exact ⟨rfl, S⟩)
                          (case hs => exact ⟨_, rfl, by kernel_rfl⟩)
                        refine softs_nil ?_
                        (with_reducible apply W_done); (case hn => rfl); (case hr => decide +kernel)
                        intro wz S
                        repeat (first | simp only at S | simp only [pick] at S | simp only [nth] at S | simp only [List.set_cons_succ] at S | simp only [List.set_cons_zero] at S | simp only [List.setIfInBounds_toArray] at S | simp only [setAll] at S | simp only [List.cons_append] at S | simp only [List.nil_append] at S | simp only [List.append_nil] at S)
                        go_wp2_with first | go_skip | ((with_reducible refine wpList_skip ?hw ?_); (case hw => with_unfolding_all rfl); simp only [Act.put, List.setIfInBounds_toArray, List.set_cons_succ, List.set_cons_zero]) | ((with_reducible refine tot_done ?ht ?_); (case ht => kernel_rfl)) | ((with_reducible apply wps_text S); (case hm => kernel_rfl); (case hB => decide +kernel); clear S; intro wz S) | ((with_reducible apply wps_alloca (E := 23) S); (case hz => exact Tryz.zeroValue23); clear S; intro bz wz S) | ((with_reducible apply wps_load S 0); (case hx | hi | hu => rfl); (case hT => decide +kernel)) | ((with_reducible apply wps_loada (T := 23) (k := 3) S 0); (case hx | hi => rfl); (case hk => exact Nat.le_of_ble_eq_true rfl); (case hT => decide +kernel))
                        (try simp only [Exit.inBlock, Exit.then]); refine bodyPost_ret (results3 rfl (S.resA 2 rfl rfl (by kernel_rfl)) (res_tmp rfl) (res_tmp rfl)) rfl ?_
                        rw [HR.out]
                        exact ⟨rfl, S.below⟩
                      · exact absurd HT.out (by simp)
              · have HR : Hid (lineE (w0 :: f) = (⟨0, 0, 0⟩, 0, 15)) := Lib.hid (by rw [HQ.out]; unfold lineT; rw [if_pos (.inr hml)])
                have hml2 : (((0 : Nat) : Int) != (fm.2 : Int)) = true := by
                  rw [bne_iff_ne, HFK.out]
                  intro e; apply hml; omega
                clear hml hTl
                as_aux_lemma =>
                  go_wp2_with first | go_skip | ((with_reducible refine wpList_skip ?hw ?_); (case hw => with_unfolding_all rfl); simp only [Act.put, List.setIfInBounds_toArray, List.set_cons_succ, List.set_cons_zero]) | ((with_reducible apply wps_load_el S 3 (hj := HFM.out) (q := 1) (u := .int .i64 fm.2)); (case hx | hi => rfl); (case hn => omega); (case hu => rfl); (case hT => decide +kernel)) | ((with_reducible apply wps_storea (T := 23) S 1 (vs := [.int .i64 0, .int .i64 0, .int .i64 0]) (m := 3)); (case hx | hy | hi | hm | h1 => rfl); (case hn => exact Nat.le_of_ble_eq_true rfl); (case hT => decide +kernel); clear S; intro wz S; simp only [List.set_cons_zero, List.set_cons_succ, setAll, List.setIfInBounds_toArray] at S) | ((with_reducible refine tot_done ?ht ?_); (case ht => kernel_rfl)) | ((with_reducible apply wps_text S); (case hm => kernel_rfl); (case hB => decide +kernel); clear S; intro wz S) | ((with_reducible apply wps_alloca (E := 23) S); (case hz => exact Tryz.zeroValue23); clear S; intro bz wz S) | ((with_reducible apply wps_load S 0); (case hx | hi | hu => rfl); (case hT => decide +kernel)) | ((with_reducible apply wps_loada (T := 23) (k := 3) S 0); (case hx | hi => rfl); (case hk => exact Nat.le_of_ble_eq_true rfl); (case hT => decide +kernel)) | ((with_reducible apply wps_load S 1); (case hx | hi | hu => rfl); (case hT => decide +kernel)) | ((with_reducible apply wps_loada (T := 23) (k := 3) S 1); (case hx | hi => rfl); (case hk => exact Nat.le_of_ble_eq_true rfl); (case hT => decide +kernel))
                  (try simp only [Exit.inBlock, Exit.then]); refine bodyPost_ret (results3 rfl (S.resA 1 rfl rfl (by kernel_rfl)) (res_tmp rfl) (res_tmp rfl)) rfl ?_
                  rw [HR.out]
                  exact ⟨rfl, S.below⟩
          · obtain ⟨t, ht⟩ : ∃ t, f.getLast? = some t := ⟨_, List.getLast?_eq_some_getLast hf0⟩
            obtain ⟨m, hm⟩ : ∃ m, f.length = m + 1 := ⟨f.length - 1, by have := List.length_pos_iff.2 hf0; omega⟩
            have hmt : f[m]? = some t := by rw [← ht, List.getLast?_eq_getElem?, hm]; rfl
            have HMT := Lib.hid hmt
            have hmem : t ∈ w0 :: f := List.mem_cons_of_mem _ (List.mem_of_getElem? hmt)
            have htl : 1 ≤ t.length := List.length_pos_iff.2 (HWN.out t hmem)
            have HHP := Lib.hid (fun w => hp_calls t w)
            obtain ⟨Rf, of_, rfl⟩ : ∃ R o, az = some ⟨R, o, none⟩ := (S.sl 0 rfl).elim fun F h => h.head (by omega)
            have hmf : m ≤ 65536 := by omega
            have hmf2 : m ≤ f.length := by omega
            by_cases hx : t.head? = some 120
            · obtain ⟨q1, q2⟩ := x_yes ht hx
              have HQ : Hid (∀ T, T = f.dropLast → lineE (w0 :: f) = lineT k t.tail T) := Lib.hid (by intro T hT; rw [HQ0.out, hT, q1, q2])
              have HDL : Hid ((f.take m).drop 0 = f.dropLast) := Lib.hid (by rw [List.drop_zero, List.dropLast_eq_take, hm]; rfl)
              rw [decide_eq_true hx] at HHP
              have HSZ0 : Hid (∀ x ∈ [t.tail] ++ f.dropLast, x.length ≤ 4294967295) := Lib.hid (fun x hxm => by
                rcases List.mem_append.1 hxm with h | h
                · have := HWS.out t hmem; simp at h; subst h; rw [List.length_tail]; omega
                · have := HWS.out x (List.mem_cons_of_mem _ (List.dropLast_subset _ h)); omega)
              have HDN : Hid (f.dropLast.length = m) := Lib.hid (by rw [List.length_dropLast, hm]; rfl)
              rw [hm] at S ⊢
              have HTW : Hid (t.drop 1 = t.tail) := Lib.hid List.drop_one
              clear hx q1 q2 HQ0 hm hmt hmem hf0 ht
              generalize t.tail = W at *
              go_upto_region 12 with first | go_skip | ((with_reducible refine wpList_skip ?hw ?_); (case hw => with_unfolding_all rfl); simp only [Act.put, List.setIfInBounds_toArray, List.set_cons_succ, List.set_cons_zero]) | ((with_reducible apply wps_load_el S 0 (hj := HMT.out) (q := 0) (u := strV t)); (case hx | hi => rfl); (case hn => omega); (case hu => rfl); (case hT => decide +kernel)) | (go_at_call 119; refine Calls.mono (HHP.out _) ?_; rintro e wz ⟨rfl, hE⟩; replace S := S.ext (Keep.of_below hE); clear hE) | ((with_reducible refine tot_done ?ht ?_); (case ht => kernel_rfl)) | ((with_reducible apply wps_text S); (case hm => kernel_rfl); (case hB => decide +kernel); clear S; intro wz S) | ((with_reducible apply wps_alloca (E := 23) S); (case hz => exact Tryz.zeroValue23); clear S; intro bz wz S) | ((with_reducible apply wps_load S 0); (case hx | hi | hu => rfl); (case hT => decide +kernel)) | ((with_reducible apply wps_loada (T := 23) (k := 3) S 0); (case hx | hi => rfl); (case hk => exact Nat.le_of_ble_eq_true rfl); (case hT => decide +kernel)) | ((with_reducible apply wps_load S 1); (case hx | hi | hu => rfl); (case hT => decide +kernel)) | ((with_reducible apply wps_loada (T := 23) (k := 3) S 1); (case hx | hi => rfl); (case hk => exact Nat.le_of_ble_eq_true rfl); (case hT => decide +kernel))
              (refine wp_region_w (soft := [0, 1, 2, 3, 4, 5, 6, 7, 8, 10]) S ?hm ?hB ?_); (case hm => kernel_rfl); (case hB => decide +kernel); clear S
              iterate 10
                (with_reducible apply softs_cons)
                (case hw =>
                  (with_reducible apply soft_of); (case hi => rfl)
                  intro T wz S
                  simp only [List.cons_append, List.nil_append] at S
                  go_wp2_with first | go_skip | ((with_reducible apply wps_load_el S 0 (hj := HMT.out) (q := 0) (u := strV t)); (case hx | hi => rfl); (case hn => omega); (case hu => rfl); (case hT => decide +kernel)) | ((with_reducible apply wps_sfrom (i := 1)); (case hx | hlo => rfl); (case hT => exact Tryz.underlying9); (case h1 => omega); (case hm => exact HTW.out)) | ((with_reducible apply wps_slice (E := 9) S 0 (l := 0) (u := m)); (case hx | hi => rfl); (case hT => exact Tryz.underlying174); (case hE => intro w; kernel_rfl); (case hlo | hhi => first | exact .inr rfl | exact .inl ⟨rfl, rfl⟩); (case h1 | h2 => first | omega | (simp; omega)); clear S; intro az nz cz hnz S) | ((with_reducible refine tot_done ?ht ?_); (case ht => kernel_rfl)) | ((with_reducible apply wps_alloca (E := 23) S); (case hz => exact Tryz.zeroValue23); clear S; intro bz wz S) | ((with_reducible apply wps_load S 0); (case hx | hi | hu => rfl); (case hT => decide +kernel)) | ((with_reducible apply wps_loada (T := 23) (k := 3) S 0); (case hx | hi => rfl); (case hk => exact Nat.le_of_ble_eq_true rfl); (case hT => decide +kernel))
                  exact ⟨rfl, S⟩)
                (case hs => exact ⟨_, rfl, by kernel_rfl⟩)
              refine softs_nil ?_
              (with_reducible apply W_hard1 (i := 9)); (case hn => rfl); (case hr => decide +kernel)
              intro wz S
              (with_reducible apply hard_of); (case hi => rfl)
              simp only [List.cons_append, List.nil_append] at S
              go_wp2_with first | go_skip | ((with_reducible apply wps_load_el S 0 (hj := HMT.out) (q := 0) (u := strV t)); (case hx | hi => rfl); (case hn => omega); (case hu => rfl); (case hT => decide +kernel)) | ((with_reducible apply wps_sfrom (i := 1)); (case hx | hlo => rfl); (case hT => exact Tryz.underlying9); (case h1 => omega); (case hm => exact HTW.out)) | ((with_reducible apply wps_slice (E := 9) S 0 (l := 0) (u := m)); (case hx | hi => rfl); (case hT => exact Tryz.underlying174); (case hE => intro w; kernel_rfl); (case hlo | hhi => first | exact .inr rfl | exact .inl ⟨rfl, rfl⟩); (case h1 | h2 => first | omega | (simp; omega)); clear S; intro az nz cz hnz S) | ((with_reducible refine tot_done ?ht ?_); (case ht => kernel_rfl)) | ((with_reducible apply wps_alloca (E := 23) S); (case hz => exact Tryz.zeroValue23); clear S; intro bz wz S) | ((with_reducible apply wps_load S 0); (case hx | hi | hu => rfl); (case hT => decide +kernel)) | ((with_reducible apply wps_loada (T := 23) (k := 3) S 0); (case hx | hi => rfl); (case hk => exact Nat.le_of_ble_eq_true rfl); (case hT => decide +kernel))
              refine ⟨_, S.pick [1, 2, 3, 4, 5, 0] rfl, ?_⟩
              clear S
              (refine W_mid (f := 0) (soft := [11]) rfl ?hB ?_); (case hB => decide +kernel)
              iterate 1
                (with_reducible apply softs_cons)
                (case hw =>
                  (with_reducible apply soft_of); (case hi => rfl)
                  intro T wz S
                  simp only [List.cons_append, List.nil_append] at S
                  go_wp2_with first | go_skip | ((with_reducible apply wps_load_el S 0 (hj := HMT.out) (q := 0) (u := strV t)); (case hx | hi => rfl); (case hn => omega); (case hu => rfl); (case hT => decide +kernel)) | ((with_reducible apply wps_sfrom (i := 1)); (case hx | hlo => rfl); (case hT => exact Tryz.underlying9); (case h1 => omega); (case hm => exact HTW.out)) | ((with_reducible apply wps_slice (E := 9) S 0 (l := 0) (u := m)); (case hx | hi => rfl); (case hT => exact Tryz.underlying174); (case hE => intro w; kernel_rfl); (case hlo | hhi => first | exact .inr rfl | exact .inl ⟨rfl, rfl⟩); (case h1 | h2 => first | omega | (simp; omega)); clear S; intro az nz cz hnz S) | ((with_reducible refine tot_done ?ht ?_); (case ht => kernel_rfl)) | ((with_reducible apply wps_alloca (E := 23) S); (case hz => exact Tryz.zeroValue23); clear S; intro bz wz S) | ((with_reducible apply wps_load S 0); (case hx | hi | hu => rfl); (case hT => decide +kernel)) | ((with_reducible apply wps_loada (T := 23) (k := 3) S 0); (case hx | hi => rfl); (case hk => exact Nat.le_of_ble_eq_true rfl); (case hT => decide +kernel))
                  exact ⟨rfl, S⟩)
                (case hs => exact ⟨_, rfl, by kernel_rfl⟩)
              refine softs_nil ?_
              (with_reducible apply W_done); (case hn => rfl); (case hr => decide +kernel)
              intro wz S
              repeat (first | simp only at S | simp only [pick] at S | simp only [nth] at S | simp only [List.set_cons_succ] at S | simp only [List.set_cons_zero] at S | simp only [List.setIfInBounds_toArray] at S | simp only [setAll] at S | simp only [List.cons_append] at S | simp only [List.nil_append] at S | simp only [List.append_nil] at S)
              obtain rfl : nz = m := by rw [hnz.out]; omega
              rw [HDL.out] at S
              go_upto_region 13 with first | go_skip | ((with_reducible refine wpList_skip ?hw ?_); (case hw => with_unfolding_all rfl); simp only [Act.put, List.setIfInBounds_toArray, List.set_cons_succ, List.set_cons_zero]) | ((with_reducible refine tot_done ?ht ?_); (case ht => kernel_rfl)) | ((with_reducible apply wps_text S); (case hm => kernel_rfl); (case hB => decide +kernel); clear S; intro wz S) | ((with_reducible apply wps_alloca (E := 23) S); (case hz => exact Tryz.zeroValue23); clear S; intro bz wz S) | ((with_reducible apply wps_load S 0); (case hx | hi | hu => rfl); (case hT => decide +kernel)) | ((with_reducible apply wps_loada (T := 23) (k := 3) S 0); (case hx | hi => rfl); (case hk => exact Nat.le_of_ble_eq_true rfl); (case hT => decide +kernel)) | ((with_reducible apply wps_load S 1); (case hx | hi | hu => rfl); (case hT => decide +kernel)) | ((with_reducible apply wps_loada (T := 23) (k := 3) S 1); (case hx | hi => rfl); (case hk => exact Nat.le_of_ble_eq_true rfl); (case hT => decide +kernel))
              obtain ⟨T, hT⟩ : ∃ T : List (List UInt8), T = f.dropLast := ⟨_, rfl⟩
              replace HQ := Lib.hid (HQ.out T hT)
              have HT : Hid (T.length = nz) := Lib.hid (by rw [hT]; exact HDN.out)
              have HSZ2 : Hid (∀ x ∈ [W] ++ T, x.length ≤ 4294967295) := Lib.hid (by rw [hT]; exact HSZ0.out)
              rw [← hT] at S
              clear hT HSZ0 HDN HDL HMT
              replace S := S.pick [5, 2, 3, 4] rfl
              simp only [pick, nth] at S
              generalize nz = tn at *
              -- T: thing 0 (.slice az tn cz); W: W; tn: tn
              replace S := S.pick [0, 1, 2, 3] rfl
              simp only [pick, nth] at S
              have hTl := HT.out
              by_cases hk4 : k = 4
              · have HR : Hid (lineE (w0 :: f) = (⟨0, 0, 0⟩, 0, 15)) := Lib.hid (by rw [HQ.out]; unfold lineT; rw [if_pos (.inl hk4)])
                subst hk4
                clear hTl
                as_aux_lemma =>
                  go_wp2_with first | go_skip | ((with_reducible refine wpList_skip ?hw ?_); (case hw => with_unfolding_all rfl); simp only [Act.put, List.setIfInBounds_toArray, List.set_cons_succ, List.set_cons_zero]) | ((with_reducible apply wps_storea (T := 23) S 1 (vs := [.int .i64 0, .int .i64 0, .int .i64 0]) (m := 3)); (case hx | hy | hi | hm | h1 => rfl); (case hn => exact Nat.le_of_ble_eq_true rfl); (case hT => decide +kernel); clear S; intro wz S; simp only [List.set_cons_zero, List.set_cons_succ, setAll, List.setIfInBounds_toArray] at S) | ((with_reducible refine tot_done ?ht ?_); (case ht => kernel_rfl)) | ((with_reducible apply wps_text S); (case hm => kernel_rfl); (case hB => decide +kernel); clear S; intro wz S) | ((with_reducible apply wps_alloca (E := 23) S); (case hz => exact Tryz.zeroValue23); clear S; intro bz wz S) | ((with_reducible apply wps_load S 0); (case hx | hi | hu => rfl); (case hT => decide +kernel)) | ((with_reducible apply wps_loada (T := 23) (k := 3) S 0); (case hx | hi => rfl); (case hk => exact Nat.le_of_ble_eq_true rfl); (case hT => decide +kernel)) | ((with_reducible apply wps_load S 1); (case hx | hi | hu => rfl); (case hT => decide +kernel)) | ((with_reducible apply wps_loada (T := 23) (k := 3) S 1); (case hx | hi => rfl); (case hk => exact Nat.le_of_ble_eq_true rfl); (case hT => decide +kernel))
                  (try simp only [Exit.inBlock, Exit.then]); refine bodyPost_ret (results3 rfl (S.resA 1 rfl rfl (by kernel_rfl)) (res_tmp rfl) (res_tmp rfl)) rfl ?_
                  rw [HR.out]
                  exact ⟨rfl, S.below⟩
              · have hk5 : k < 4 := by omega
                obtain ⟨fm, hfm⟩ : ∃ x, formsL[k]? = some x := ⟨_, List.getElem?_eq_getElem (by rw [forms_len]; exact hk5)⟩
                have HFM := Lib.hid hfm
                have hk6 : ((k : Int) == 4) = false := by rw [beq_eq_false_iff_ne]; omega
                have HFK := Lib.hid (forms_many hfm)
                clear hfm
                by_cases hml : T.length = manyE k
                · have hml2 : (((tn : Nat) : Int) != (fm.2 : Int)) = false := by
                    rw [bne_eq_false_iff_eq, HFK.out, ← hml, hTl]
                  have HTL : Hid (T.length ≤ 2) := Lib.hid (by rw [hml]; unfold manyE; split; omega; split <;> omega)
                  have HNM : Hid (lineE (w0 :: f) = if numsE ((W) :: T) ≠ 0 then (⟨0, 0, 0⟩, 0, numsE ((W) :: T)) else if (numE (W)).1 = 0 then (⟨0, 0, 0⟩, 0, 10) else (⟨k, nthE T 0, nthE T 1⟩, (numE (W)).1, 0)) := Lib.hid (by
                    rw [HQ.out]; unfold lineT; rw [if_neg (by rw [hml]; simp; omega)])
                  have hln3 : T.length ≤ 2 := HTL.out
                  have hln4 : tn ≤ 2 := by omega
                  have HNUM : Hid (∀ v w F F2, (Sl true strcell 1 v ([W] ++ T)).at_ w F → (LibA tE pE).at_ w F2 → Calls Tryz.prog 120 #[v] w (NumsPost ([W] ++ T) w)) := Lib.hid fun v w F F2 h h2 => nums_calls tE pE v _ w F F2 h h2 (by simp; omega) HSZ2.out
                  clear hml hTl HTL
                  as_aux_lemma =>
                    go_upto_region 16 with first | go_skip | ((with_reducible refine wpList_skip ?hw ?_); (case hw => with_unfolding_all rfl); simp only [Act.put, List.setIfInBounds_toArray, List.set_cons_succ, List.set_cons_zero]) | ((with_reducible apply wps_load_el S 3 (hj := HFM.out) (q := 1) (u := .int .i64 fm.2)); (case hx | hi => rfl); (case hn => omega); (case hu => rfl); (case hT => decide +kernel)) | ((with_reducible apply wps_build11 (T := 174) (E := 9) S); (case hx => rfl); (case hr => intro w; kernel_rfl); clear S; intro bz wz S; replace S := S.ownOne strcell 1 (W) rfl rfl) | ((with_reducible apply wps_appends elem_Str strcells strone (by decide) S 0 (j := 1)); (case hx | hy | hi | hj => rfl); (case hl => first | omega | (simp; omega)); clear S; intro az nz cz wz hnz S; simp only [List.set_cons_zero] at S) | ((with_reducible refine tot_done ?ht ?_); (case ht => kernel_rfl)) | ((with_reducible apply wps_text S); (case hm => kernel_rfl); (case hB => decide +kernel); clear S; intro wz S) | ((with_reducible apply wps_alloca (E := 23) S); (case hz => exact Tryz.zeroValue23); clear S; intro bz wz S) | ((with_reducible apply wps_load S 0); (case hx | hi | hu => rfl); (case hT => decide +kernel)) | ((with_reducible apply wps_loada (T := 23) (k := 3) S 0); (case hx | hi => rfl); (case hk => exact Nat.le_of_ble_eq_true rfl); (case hT => decide +kernel)) | ((with_reducible apply wps_load S 1); (case hx | hi | hu => rfl); (case hT => decide +kernel)) | ((with_reducible apply wps_loada (T := 23) (k := 3) S 1); (case hx | hi => rfl); (case hk => exact Nat.le_of_ble_eq_true rfl); (case hT => decide +kernel))
                    refine Calls.mono (HNUM.out _ _ _ _ (own_sl (sh := true) strcells (S.get (i := 0) rfl).choose_spec) (S.get (i := 3) rfl).choose_spec) ?_
                    clear HNUM
                    rintro e wz (⟨hne2, rfl, hE⟩ | ⟨hz2, ai, ci, rfl, TI⟩)
                    · replace S := S.ext (Keep.of_below hE)
                      have HR : Hid (lineE (w0 :: f) = (⟨0, 0, 0⟩, 0, numsE ([W] ++ T))) := Lib.hid (by rw [HNM.out]; exact if_pos hne2)
                      have hne3 : (numsE ([W] ++ T) != 0) = true := by rw [bne_iff_ne]; exact hne2
                      clear hE hne2 HNM
                      generalize numsE ([W] ++ T) = en at *
                      go_wp2_with first | go_skip | ((with_reducible refine wpList_skip ?hw ?_); (case hw => with_unfolding_all rfl); simp only [Act.put, List.setIfInBounds_toArray, List.set_cons_succ, List.set_cons_zero]) | ((with_reducible apply wps_storea (T := 23) S 2 (vs := [.int .i64 0, .int .i64 0, .int .i64 0]) (m := 3)); (case hx | hy | hi | hm | h1 => rfl); (case hn => exact Nat.le_of_ble_eq_true rfl); (case hT => decide +kernel); clear S; intro wz S; simp only [List.set_cons_zero, List.set_cons_succ, setAll, List.setIfInBounds_toArray] at S) | ((with_reducible refine tot_done ?ht ?_); (case ht => kernel_rfl)) | ((with_reducible apply wps_text S); (case hm => kernel_rfl); (case hB => decide +kernel); clear S; intro wz S) | ((with_reducible apply wps_alloca (E := 23) S); (case hz => exact Tryz.zeroValue23); clear S; intro bz wz S) | ((with_reducible apply wps_load S 0); (case hx | hi | hu => rfl); (case hT => decide +kernel)) | ((with_reducible apply wps_loada (T := 23) (k := 3) S 0); (case hx | hi => rfl); (case hk => exact Nat.le_of_ble_eq_true rfl); (case hT => decide +kernel)) | ((with_reducible apply wps_load S 1); (case hx | hi | hu => rfl); (case hT => decide +kernel)) | ((with_reducible apply wps_loada (T := 23) (k := 3) S 1); (case hx | hi => rfl); (case hk => exact Nat.le_of_ble_eq_true rfl); (case hT => decide +kernel))
                      (try simp only [Exit.inBlock, Exit.then]); refine bodyPost_ret (results3 rfl (S.resA 2 rfl rfl (by kernel_rfl)) (res_tmp rfl) (res_tmp rfl)) rfl ?_
                      rw [HR.out]
                      exact ⟨rfl, S.below⟩
                    · replace S := S.join TI rfl
                      simp only [List.cons_append, List.nil_append] at S
                      clear TI
                      obtain ⟨Ri, ci2, eqi⟩ := sown_hd 0 S rfl (by simp)
                      simp only [Value.slice.injEq] at eqi
                      obtain ⟨rfl, _, rfl⟩ := eqi
                      have H0I : Hid (((W :: T).map fun x => ((numE x).1 : Int))[0]? = some ((numE (W)).1 : Int)) := Lib.hid rfl
                      by_cases hz0 : (numE (W)).1 = 0
                      · have HR : Hid (lineE (w0 :: f) = (⟨0, 0, 0⟩, 0, 10)) := Lib.hid (by rw [HNM.out, if_neg (fun q => q hz2), if_pos hz0])
                        have hz3 : (((numE (W)).1 : Int) == 0) = true := by rw [hz0]; rfl
                        clear HNM hz0 hz2
                        generalize ((numE (W)).1 : Int) = z at *
                        go_wp2_with first | go_skip | ((with_reducible refine wpList_skip ?hw ?_); (case hw => with_unfolding_all rfl); simp only [Act.put, List.setIfInBounds_toArray, List.set_cons_succ, List.set_cons_zero]) | ((with_reducible apply wps_load_own icells S 0 (hj := H0I.out) (q := 0) (u := .int .i64 z)); (case hx | hi => rfl); (case hn => omega); (case hu => rfl); (case hT => decide +kernel)) | ((with_reducible apply wps_storea (T := 23) S 3 (vs := [.int .i64 0, .int .i64 0, .int .i64 0]) (m := 3)); (case hx | hy | hi | hm | h1 => rfl); (case hn => exact Nat.le_of_ble_eq_true rfl); (case hT => decide +kernel); clear S; intro wz S; simp only [List.set_cons_zero, List.set_cons_succ, setAll, List.setIfInBounds_toArray] at S) | ((with_reducible refine tot_done ?ht ?_); (case ht => kernel_rfl)) | ((with_reducible apply wps_text S); (case hm => kernel_rfl); (case hB => decide +kernel); clear S; intro wz S) | ((with_reducible apply wps_alloca (E := 23) S); (case hz => exact Tryz.zeroValue23); clear S; intro bz wz S) | ((with_reducible apply wps_load S 0); (case hx | hi | hu => rfl); (case hT => decide +kernel)) | ((with_reducible apply wps_loada (T := 23) (k := 3) S 0); (case hx | hi => rfl); (case hk => exact Nat.le_of_ble_eq_true rfl); (case hT => decide +kernel)) | ((with_reducible apply wps_load S 1); (case hx | hi | hu => rfl); (case hT => decide +kernel)) | ((with_reducible apply wps_loada (T := 23) (k := 3) S 1); (case hx | hi => rfl); (case hk => exact Nat.le_of_ble_eq_true rfl); (case hT => decide +kernel))
                        (try simp only [Exit.inBlock, Exit.then]); refine bodyPost_ret (results3 rfl (S.resA 3 rfl rfl (by kernel_rfl)) (res_tmp rfl) (res_tmp rfl)) rfl ?_
                        rw [HR.out]
                        exact ⟨rfl, S.below⟩
                      · have HR : Hid (lineE (w0 :: f) = (⟨k, nthE T 0, nthE T 1⟩, (numE (W)).1, 0)) := Lib.hid (by rw [HNM.out, if_neg (fun q => q hz2), if_neg hz0])
                        have hz3 : (((numE (W)).1 : Int) == 0) = false := by rw [beq_eq_false_iff_ne]; omega
                        clear HNM hz0 hz2
                        generalize (numE (W)).1 = zn at *
                        rcases T with _ | ⟨a, _ | ⟨b, _ | ⟨c, T⟩⟩⟩
                        · clear HSZ2
                          have hq := HT.out
                          rw [List.length_nil] at hq
                          subst hq
                          go_upto_region 25 with first | go_skip | ((with_reducible refine wpList_skip ?hw ?_); (case hw => with_unfolding_all rfl); simp only [Act.put, List.setIfInBounds_toArray, List.set_cons_succ, List.set_cons_zero]) | ((with_reducible apply wps_load_own icells S 0 (hj := H0I.out) (q := 0) (u := .int .i64 (zn : Int))); (case hx | hi => rfl); (case hn => omega); (case hu => rfl); (case hT => decide +kernel)) | ((with_reducible apply wps_alloca (E := 23) S); (case hz => exact Tryz.zeroValue23); clear S; intro bd wz S) | ((with_reducible apply wps_storea (T := 23) S 0 (vs := [.int .i64 k, .int .i64 0, .int .i64 0]) (m := 3)); (case hx | hy | hi | hm | h1 => rfl); (case hn => exact Nat.le_of_ble_eq_true rfl); (case hT => decide +kernel); clear S; intro wz S; simp only [List.set_cons_zero, List.set_cons_succ, setAll, List.setIfInBounds_toArray] at S) | ((with_reducible refine tot_done ?ht ?_); (case ht => kernel_rfl)) | ((with_reducible apply wps_text S); (case hm => kernel_rfl); (case hB => decide +kernel); clear S; intro wz S) | ((with_reducible apply wps_alloca (E := 23) S); (case hz => exact Tryz.zeroValue23); clear S; intro bz wz S) | ((with_reducible apply wps_load S 0); (case hx | hi | hu => rfl); (case hT => decide +kernel)) | ((with_reducible apply wps_loada (T := 23) (k := 3) S 0); (case hx | hi => rfl); (case hk => exact Nat.le_of_ble_eq_true rfl); (case hT => decide +kernel)) | ((with_reducible apply wps_load S 1); (case hx | hi | hu => rfl); (case hT => decide +kernel)) | ((with_reducible apply wps_loada (T := 23) (k := 3) S 1); (case hx | hi => rfl); (case hk => exact Nat.le_of_ble_eq_true rfl); (case hT => decide +kernel))
                          replace S := S.pick [0, 1, 4] rfl
                          simp only [pick, nth] at S
                          (refine wp_region_wt (soft := [0, 1, 2, 3]) (L := [_, _]) (T := [_]) S ?hm ?hB ?_); (case hm => kernel_rfl); (case hB => decide +kernel); clear S
                          iterate 4
                            (with_reducible apply softs_cons)
                            (case hw =>
                              (with_reducible apply soft_of); (case hi => rfl)
                              intro T wz S
                              simp only [List.cons_append, List.nil_append] at S
                              go_wp2_with first | go_skip | ((with_reducible apply wps_loada (T := 23) (k := 3) S 0); (case hx | hi => rfl); (case hk => exact Nat.le_of_ble_eq_true rfl); (case hT => decide +kernel)) | ((with_reducible apply wps_load_own icells S 1 (hj := H0I.out) (q := 0) (u := .int .i64 (zn : Int))); (case hx | hi => rfl); (case hn => omega); (case hu => rfl); (case hT => decide +kernel)) | ((with_reducible apply wps_storea (T := 23) S 2 (vs := [.int .i64 k, .int .i64 0, .int .i64 0]) (m := 3)); (case hx | hy | hi | hm | h1 => rfl); (case hn => exact Nat.le_of_ble_eq_true rfl); (case hT => decide +kernel); clear S; intro wz S; simp only [List.set_cons_zero, List.set_cons_succ, setAll, List.setIfInBounds_toArray] at S) | ((with_reducible refine tot_done ?ht ?_); (case ht => kernel_rfl)) | ((with_reducible apply wps_alloca (E := 23) S); (case hz => exact Tryz.zeroValue23); clear S; intro bz wz S) | ((with_reducible apply wps_load S 0); (case hx | hi | hu => rfl); (case hT => decide +kernel)) | ((with_reducible apply wps_loada (T := 23) (k := 3) S 0); (case hx | hi => rfl); (case hk => exact Nat.le_of_ble_eq_true rfl); (case hT => decide +kernel))
                              exact ⟨rfl, S⟩)
                            (case hs => exact ⟨_, rfl, by kernel_rfl⟩)
                          refine softs_nil ?_
                          (with_reducible apply W_hard1 (i := 4)); (case hn => rfl); (case hr => decide +kernel)
                          intro wz S
                          (with_reducible apply hard_of); (case hi => rfl)
                          simp only [List.cons_append, List.nil_append] at S
                          go_wp2_with first | go_skip | ((with_reducible apply wps_loada (T := 23) (k := 3) S 0); (case hx | hi => rfl); (case hk => exact Nat.le_of_ble_eq_true rfl); (case hT => decide +kernel)) | ((with_reducible apply wps_load_own icells S 1 (hj := H0I.out) (q := 0) (u := .int .i64 (zn : Int))); (case hx | hi => rfl); (case hn => omega); (case hu => rfl); (case hT => decide +kernel)) | ((with_reducible apply wps_storea (T := 23) S 2 (vs := [.int .i64 k, .int .i64 0, .int .i64 0]) (m := 3)); (case hx | hy | hi | hm | h1 => rfl); (case hn => exact Nat.le_of_ble_eq_true rfl); (case hT => decide +kernel); clear S; intro wz S; simp only [List.set_cons_zero, List.set_cons_succ, setAll, List.setIfInBounds_toArray] at S) | ((with_reducible refine tot_done ?ht ?_); (case ht => kernel_rfl)) | ((with_reducible apply wps_alloca (E := 23) S); (case hz => exact Tryz.zeroValue23); clear S; intro bz wz S) | ((with_reducible apply wps_load S 0); (case hx | hi | hu => rfl); (case hT => decide +kernel)) | ((with_reducible apply wps_loada (T := 23) (k := 3) S 0); (case hx | hi => rfl); (case hk => exact Nat.le_of_ble_eq_true rfl); (case hT => decide +kernel))
                          refine ⟨_, S, ?_⟩
                          clear S
                          (refine W_mid (f := 0) (soft := [5, 6]) rfl ?hB ?_); (case hB => decide +kernel)
                          iterate 2
                            (with_reducible apply softs_cons)
                            (case hw =>
                              (with_reducible apply soft_of); (case hi => rfl)
                              intro T wz S
                              simp only [List.cons_append, List.nil_append] at S
                              go_wp2_with first | go_skip | ((with_reducible apply wps_loada (T := 23) (k := 3) S 0); (case hx | hi => rfl); (case hk => exact Nat.le_of_ble_eq_true rfl); (case hT => decide +kernel)) | ((with_reducible apply wps_load_own icells S 1 (hj := H0I.out) (q := 0) (u := .int .i64 (zn : Int))); (case hx | hi => rfl); (case hn => omega); (case hu => rfl); (case hT => decide +kernel)) | ((with_reducible apply wps_storea (T := 23) S 2 (vs := [.int .i64 k, .int .i64 0, .int .i64 0]) (m := 3)); (case hx | hy | hi | hm | h1 => rfl); (case hn => exact Nat.le_of_ble_eq_true rfl); (case hT => decide +kernel); clear S; intro wz S; simp only [List.set_cons_zero, List.set_cons_succ, setAll, List.setIfInBounds_toArray] at S) | ((with_reducible refine tot_done ?ht ?_); (case ht => kernel_rfl)) | ((with_reducible apply wps_alloca (E := 23) S); (case hz => exact Tryz.zeroValue23); clear S; intro bz wz S) | ((with_reducible apply wps_load S 0); (case hx | hi | hu => rfl); (case hT => decide +kernel)) | ((with_reducible apply wps_loada (T := 23) (k := 3) S 0); (case hx | hi => rfl); (case hk => exact Nat.le_of_ble_eq_true rfl); (case hT => decide +kernel))
                              exact ⟨rfl, S⟩)
                            (case hs => exact ⟨_, rfl, by kernel_rfl⟩)
                          refine softs_nil ?_
                          (with_reducible apply W_done); (case hn => rfl); (case hr => decide +kernel)
                          intro wz S
                          repeat (first | simp only at S | simp only [pick] at S | simp only [nth] at S | simp only [List.set_cons_succ] at S | simp only [List.set_cons_zero] at S | simp only [List.setIfInBounds_toArray] at S | simp only [setAll] at S | simp only [List.cons_append] at S | simp only [List.nil_append] at S | simp only [List.append_nil] at S)
                          go_wp2_with first | go_skip | ((with_reducible refine wpList_skip ?hw ?_); (case hw => with_unfolding_all rfl); simp only [Act.put, List.setIfInBounds_toArray, List.set_cons_succ, List.set_cons_zero]) | ((with_reducible refine tot_done ?ht ?_); (case ht => kernel_rfl)) | ((with_reducible apply wps_text S); (case hm => kernel_rfl); (case hB => decide +kernel); clear S; intro wz S) | ((with_reducible apply wps_alloca (E := 23) S); (case hz => exact Tryz.zeroValue23); clear S; intro bz wz S) | ((with_reducible apply wps_load S 0); (case hx | hi | hu => rfl); (case hT => decide +kernel)) | ((with_reducible apply wps_loada (T := 23) (k := 3) S 0); (case hx | hi => rfl); (case hk => exact Nat.le_of_ble_eq_true rfl); (case hT => decide +kernel))
                          (try simp only [Exit.inBlock, Exit.then]); refine bodyPost_ret (results3 rfl (S.resA 2 rfl rfl (by kernel_rfl)) (res_tmp rfl) (res_tmp rfl)) rfl ?_
                          rw [HR.out]
                          exact ⟨rfl, S.below⟩
                        · clear HSZ2
                          have hq : 1 = tn := HT.out
                          subst hq
                          have H1I : Hid (((W :: [a]).map fun x => ((numE x).1 : Int))[1]? = some ((numE a).1 : Int)) := Lib.hid rfl
                          have HNA : Hid (nthE [a] 0 = ((numE a).1 : Int)) := Lib.hid rfl
                          have HNB : Hid (nthE [a] 1 = 0) := Lib.hid rfl
                          generalize ((numE a).1 : Int) = za at *
                          rw [HNA.out, HNB.out] at HR
                          clear HNA HNB
                          go_upto_region 25 with first | go_skip | ((with_reducible refine wpList_skip ?hw ?_); (case hw => with_unfolding_all rfl); simp only [Act.put, List.setIfInBounds_toArray, List.set_cons_succ, List.set_cons_zero]) | ((with_reducible apply wps_load_own icells S 0 (hj := H0I.out) (q := 0) (u := .int .i64 (zn : Int))); (case hx | hi => rfl); (case hn => omega); (case hu => rfl); (case hT => decide +kernel)) | ((with_reducible apply wps_load_own icells S 1 (hj := H1I.out) (q := 0) (u := .int .i64 za)); (case hx | hi => rfl); (case hn => omega); (case hu => rfl); (case hT => decide +kernel)) | ((with_reducible apply wps_store (u := .int .i64 za) S 0); (case hx | hy | hi | h1 => rfl); (case hn => exact Nat.le_of_ble_eq_true rfl); (case hT => decide +kernel); clear S; intro wz S; simp only [List.set_cons_succ, List.set_cons_zero, List.setIfInBounds_toArray] at S) | ((with_reducible apply wps_alloca (E := 23) S); (case hz => exact Tryz.zeroValue23); clear S; intro bd wz S) | ((with_reducible apply wps_storea (T := 23) S 0 (vs := [.int .i64 k, .int .i64 0, .int .i64 0]) (m := 3)); (case hx | hy | hi | hm | h1 => rfl); (case hn => exact Nat.le_of_ble_eq_true rfl); (case hT => decide +kernel); clear S; intro wz S; simp only [List.set_cons_zero, List.set_cons_succ, setAll, List.setIfInBounds_toArray] at S) | ((with_reducible refine tot_done ?ht ?_); (case ht => kernel_rfl)) | ((with_reducible apply wps_text S); (case hm => kernel_rfl); (case hB => decide +kernel); clear S; intro wz S) | ((with_reducible apply wps_alloca (E := 23) S); (case hz => exact Tryz.zeroValue23); clear S; intro bz wz S) | ((with_reducible apply wps_load S 0); (case hx | hi | hu => rfl); (case hT => decide +kernel)) | ((with_reducible apply wps_loada (T := 23) (k := 3) S 0); (case hx | hi => rfl); (case hk => exact Nat.le_of_ble_eq_true rfl); (case hT => decide +kernel)) | ((with_reducible apply wps_load S 1); (case hx | hi | hu => rfl); (case hT => decide +kernel)) | ((with_reducible apply wps_loada (T := 23) (k := 3) S 1); (case hx | hi => rfl); (case hk => exact Nat.le_of_ble_eq_true rfl); (case hT => decide +kernel))
                          replace S := S.pick [0, 1, 4] rfl
                          simp only [pick, nth] at S
                          (refine wp_region_wt (soft := [0, 1, 2, 3]) (L := [_, _]) (T := [_]) S ?hm ?hB ?_); (case hm => kernel_rfl); (case hB => decide +kernel); clear S
                          iterate 4
                            (with_reducible apply softs_cons)
                            (case hw =>
                              (with_reducible apply soft_of); (case hi => rfl)
                              intro T wz S
                              simp only [List.cons_append, List.nil_append] at S
                              go_wp2_with first | go_skip | ((with_reducible apply wps_loada (T := 23) (k := 3) S 0); (case hx | hi => rfl); (case hk => exact Nat.le_of_ble_eq_true rfl); (case hT => decide +kernel)) | ((with_reducible apply wps_load_own icells S 1 (hj := H0I.out) (q := 0) (u := .int .i64 (zn : Int))); (case hx | hi => rfl); (case hn => omega); (case hu => rfl); (case hT => decide +kernel)) | ((with_reducible apply wps_storea (T := 23) S 2 (vs := [.int .i64 k, .int .i64 za, .int .i64 0]) (m := 3)); (case hx | hy | hi | hm | h1 => rfl); (case hn => exact Nat.le_of_ble_eq_true rfl); (case hT => decide +kernel); clear S; intro wz S; simp only [List.set_cons_zero, List.set_cons_succ, setAll, List.setIfInBounds_toArray] at S) | ((with_reducible refine tot_done ?ht ?_); (case ht => kernel_rfl)) | ((with_reducible apply wps_alloca (E := 23) S); (case hz => exact Tryz.zeroValue23); clear S; intro bz wz S) | ((with_reducible apply wps_load S 0); (case hx | hi | hu => rfl); (case hT => decide +kernel)) | ((with_reducible apply wps_loada (T := 23) (k := 3) S 0); (case hx | hi => rfl); (case hk => exact Nat.le_of_ble_eq_true rfl); (case hT => decide +kernel))
                              exact ⟨rfl, S⟩)
                            (case hs => exact ⟨_, rfl, by kernel_rfl⟩)
                          refine softs_nil ?_
                          (with_reducible apply W_hard1 (i := 4)); (case hn => rfl); (case hr => decide +kernel)
                          intro wz S
                          (with_reducible apply hard_of); (case hi => rfl)
                          simp only [List.cons_append, List.nil_append] at S
                          go_wp2_with first | go_skip | ((with_reducible apply wps_loada (T := 23) (k := 3) S 0); (case hx | hi => rfl); (case hk => exact Nat.le_of_ble_eq_true rfl); (case hT => decide +kernel)) | ((with_reducible apply wps_load_own icells S 1 (hj := H0I.out) (q := 0) (u := .int .i64 (zn : Int))); (case hx | hi => rfl); (case hn => omega); (case hu => rfl); (case hT => decide +kernel)) | ((with_reducible apply wps_storea (T := 23) S 2 (vs := [.int .i64 k, .int .i64 za, .int .i64 0]) (m := 3)); (case hx | hy | hi | hm | h1 => rfl); (case hn => exact Nat.le_of_ble_eq_true rfl); (case hT => decide +kernel); clear S; intro wz S; simp only [List.set_cons_zero, List.set_cons_succ, setAll, List.setIfInBounds_toArray] at S) | ((with_reducible refine tot_done ?ht ?_); (case ht => kernel_rfl)) | ((with_reducible apply wps_alloca (E := 23) S); (case hz => exact Tryz.zeroValue23); clear S; intro bz wz S) | ((with_reducible apply wps_load S 0); (case hx | hi | hu => rfl); (case hT => decide +kernel)) | ((with_reducible apply wps_loada (T := 23) (k := 3) S 0); (case hx | hi => rfl); (case hk => exact Nat.le_of_ble_eq_true rfl); (case hT => decide +kernel))
                          refine ⟨_, S, ?_⟩
                          clear S
                          (refine W_mid (f := 0) (soft := [5, 6]) rfl ?hB ?_); (case hB => decide +kernel)
                          iterate 2
                            (with_reducible apply softs_cons)
                            (case hw =>
                              (with_reducible apply soft_of); (case hi => rfl)
                              intro T wz S
                              simp only [List.cons_append, List.nil_append] at S
                              go_wp2_with first | go_skip | ((with_reducible apply wps_loada (T := 23) (k := 3) S 0); (case hx | hi => rfl); (case hk => exact Nat.le_of_ble_eq_true rfl); (case hT => decide +kernel)) | ((with_reducible apply wps_load_own icells S 1 (hj := H0I.out) (q := 0) (u := .int .i64 (zn : Int))); (case hx | hi => rfl); (case hn => omega); (case hu => rfl); (case hT => decide +kernel)) | ((with_reducible apply wps_storea (T := 23) S 2 (vs := [.int .i64 k, .int .i64 za, .int .i64 0]) (m := 3)); (case hx | hy | hi | hm | h1 => rfl); (case hn => exact Nat.le_of_ble_eq_true rfl); (case hT => decide +kernel); clear S; intro wz S; simp only [List.set_cons_zero, List.set_cons_succ, setAll, List.setIfInBounds_toArray] at S) | ((with_reducible refine tot_done ?ht ?_); (case ht => kernel_rfl)) | ((with_reducible apply wps_alloca (E := 23) S); (case hz => exact Tryz.zeroValue23); clear S; intro bz wz S) | ((with_reducible apply wps_load S 0); (case hx | hi | hu => rfl); (case hT => decide +kernel)) | ((with_reducible apply wps_loada (T := 23) (k := 3) S 0); (case hx | hi => rfl); (case hk => exact Nat.le_of_ble_eq_true rfl); (case hT => decide +kernel))
                              exact ⟨rfl, S⟩)
                            (case hs => exact ⟨_, rfl, by kernel_rfl⟩)
                          refine softs_nil ?_
                          (with_reducible apply W_done); (case hn => rfl); (case hr => decide +kernel)
                          intro wz S
                          repeat (first | simp only at S | simp only [pick] at S | simp only [nth] at S | simp only [List.set_cons_succ] at S | simp only [List.set_cons_zero] at S | simp only [List.setIfInBounds_toArray] at S | simp only [setAll] at S | simp only [List.cons_append] at S | simp only [List.nil_append] at S | simp only [List.append_nil] at S)
                          go_wp2_with first | go_skip | ((with_reducible refine wpList_skip ?hw ?_); (case hw => with_unfolding_all rfl); simp only [Act.put, List.setIfInBounds_toArray, List.set_cons_succ, List.set_cons_zero]) | ((with_reducible refine tot_done ?ht ?_); (case ht => kernel_rfl)) | ((with_reducible apply wps_text S); (case hm => kernel_rfl); (case hB => decide +kernel); clear S; intro wz S) | ((with_reducible apply wps_alloca (E := 23) S); (case hz => exact Tryz.zeroValue23); clear S; intro bz wz S) | ((with_reducible apply wps_load S 0); (case hx | hi | hu => rfl); (case hT => decide +kernel)) | ((with_reducible apply wps_loada (T := 23) (k := 3) S 0); (case hx | hi => rfl); (case hk => exact Nat.le_of_ble_eq_true rfl); (case hT => decide +kernel))
                          (try simp only [Exit.inBlock, Exit.then]); refine bodyPost_ret (results3 rfl (S.resA 2 rfl rfl (by kernel_rfl)) (res_tmp rfl) (res_tmp rfl)) rfl ?_
                          rw [HR.out]
                          exact ⟨rfl, S.below⟩
                        · clear HSZ2
                          have hq : 2 = tn := HT.out
                          subst hq
                          have H1I : Hid (((W :: [a, b]).map fun x => ((numE x).1 : Int))[1]? = some ((numE a).1 : Int)) := Lib.hid rfl
                          have H2I : Hid (((W :: [a, b]).map fun x => ((numE x).1 : Int))[2]? = some ((numE b).1 : Int)) := Lib.hid rfl
                          have HNA : Hid (nthE [a, b] 0 = ((numE a).1 : Int)) := Lib.hid rfl
                          have HNB : Hid (nthE [a, b] 1 = ((numE b).1 : Int)) := Lib.hid rfl
                          generalize ((numE a).1 : Int) = za at *
                          generalize ((numE b).1 : Int) = zb at *
                          rw [HNA.out, HNB.out] at HR
                          clear HNA HNB
                          go_upto_region 25 with first | go_skip | ((with_reducible refine wpList_skip ?hw ?_); (case hw => with_unfolding_all rfl); simp only [Act.put, List.setIfInBounds_toArray, List.set_cons_succ, List.set_cons_zero]) | ((with_reducible apply wps_load_own icells S 0 (hj := H0I.out) (q := 0) (u := .int .i64 (zn : Int))); (case hx | hi => rfl); (case hn => omega); (case hu => rfl); (case hT => decide +kernel)) | ((with_reducible apply wps_load_own icells S 1 (hj := H1I.out) (q := 0) (u := .int .i64 za)); (case hx | hi => rfl); (case hn => omega); (case hu => rfl); (case hT => decide +kernel)) | ((with_reducible apply wps_store (u := .int .i64 za) S 0); (case hx | hy | hi | h1 => rfl); (case hn => exact Nat.le_of_ble_eq_true rfl); (case hT => decide +kernel); clear S; intro wz S; simp only [List.set_cons_succ, List.set_cons_zero, List.setIfInBounds_toArray] at S) | ((with_reducible apply wps_load_own icells S 1 (hj := H2I.out) (q := 0) (u := .int .i64 zb)); (case hx | hi => rfl); (case hn => omega); (case hu => rfl); (case hT => decide +kernel)) | ((with_reducible apply wps_store (u := .int .i64 zb) S 0); (case hx | hy | hi | h1 => rfl); (case hn => exact Nat.le_of_ble_eq_true rfl); (case hT => decide +kernel); clear S; intro wz S; simp only [List.set_cons_succ, List.set_cons_zero, List.setIfInBounds_toArray] at S) | ((with_reducible apply wps_alloca (E := 23) S); (case hz => exact Tryz.zeroValue23); clear S; intro bd wz S) | ((with_reducible apply wps_storea (T := 23) S 0 (vs := [.int .i64 k, .int .i64 0, .int .i64 0]) (m := 3)); (case hx | hy | hi | hm | h1 => rfl); (case hn => exact Nat.le_of_ble_eq_true rfl); (case hT => decide +kernel); clear S; intro wz S; simp only [List.set_cons_zero, List.set_cons_succ, setAll, List.setIfInBounds_toArray] at S) | ((with_reducible refine tot_done ?ht ?_); (case ht => kernel_rfl)) | ((with_reducible apply wps_text S); (case hm => kernel_rfl); (case hB => decide +kernel); clear S; intro wz S) | ((with_reducible apply wps_alloca (E := 23) S); (case hz => exact Tryz.zeroValue23); clear S; intro bz wz S) | ((with_reducible apply wps_load S 0); (case hx | hi | hu => rfl); (case hT => decide +kernel)) | ((with_reducible apply wps_loada (T := 23) (k := 3) S 0); (case hx | hi => rfl); (case hk => exact Nat.le_of_ble_eq_true rfl); (case hT => decide +kernel)) | ((with_reducible apply wps_load S 1); (case hx | hi | hu => rfl); (case hT => decide +kernel)) | ((with_reducible apply wps_loada (T := 23) (k := 3) S 1); (case hx | hi => rfl); (case hk => exact Nat.le_of_ble_eq_true rfl); (case hT => decide +kernel))
                          replace S := S.pick [0, 1, 4] rfl
                          simp only [pick, nth] at S
                          (refine wp_region_wt (soft := [0, 1, 2, 3]) (L := [_, _]) (T := [_]) S ?hm ?hB ?_); (case hm => kernel_rfl); (case hB => decide +kernel); clear S
                          iterate 4
                            (with_reducible apply softs_cons)
                            (case hw =>
                              (with_reducible apply soft_of); (case hi => rfl)
                              intro T wz S
                              simp only [List.cons_append, List.nil_append] at S
                              go_wp2_with first | go_skip | ((with_reducible apply wps_loada (T := 23) (k := 3) S 0); (case hx | hi => rfl); (case hk => exact Nat.le_of_ble_eq_true rfl); (case hT => decide +kernel)) | ((with_reducible apply wps_load_own icells S 1 (hj := H0I.out) (q := 0) (u := .int .i64 (zn : Int))); (case hx | hi => rfl); (case hn => omega); (case hu => rfl); (case hT => decide +kernel)) | ((with_reducible apply wps_storea (T := 23) S 2 (vs := [.int .i64 k, .int .i64 za, .int .i64 zb]) (m := 3)); (case hx | hy | hi | hm | h1 => rfl); (case hn => exact Nat.le_of_ble_eq_true rfl); (case hT => decide +kernel); clear S; intro wz S; simp only [List.set_cons_zero, List.set_cons_succ, setAll, List.setIfInBounds_toArray] at S) | ((with_reducible refine tot_done ?ht ?_); (case ht => kernel_rfl)) | ((with_reducible apply wps_alloca (E := 23) S); (case hz => exact Tryz.zeroValue23); clear S; intro bz wz S) | ((with_reducible apply wps_load S 0); (case hx | hi | hu => rfl); (case hT => decide +kernel)) | ((with_reducible apply wps_loada (T := 23) (k := 3) S 0); (case hx | hi => rfl); (case hk => exact Nat.le_of_ble_eq_true rfl); (case hT => decide +kernel))
                              exact ⟨rfl, S⟩)
                            (case hs => exact ⟨_, rfl, by kernel_rfl⟩)
                          refine softs_nil ?_
                          (with_reducible apply W_hard1 (i := 4)); (case hn => rfl); (case hr => decide +kernel)
                          intro wz S
                          (with_reducible apply hard_of); (case hi => rfl)
                          simp only [List.cons_append, List.nil_append] at S
                          go_wp2_with first | go_skip | ((with_reducible apply wps_loada (T := 23) (k := 3) S 0); (case hx | hi => rfl); (case hk => exact Nat.le_of_ble_eq_true rfl); (case hT => decide +kernel)) | ((with_reducible apply wps_load_own icells S 1 (hj := H0I.out) (q := 0) (u := .int .i64 (zn : Int))); (case hx | hi => rfl); (case hn => omega); (case hu => rfl); (case hT => decide +kernel)) | ((with_reducible apply wps_storea (T := 23) S 2 (vs := [.int .i64 k, .int .i64 za, .int .i64 zb]) (m := 3)); (case hx | hy | hi | hm | h1 => rfl); (case hn => exact Nat.le_of_ble_eq_true rfl); (case hT => decide +kernel); clear S; intro wz S; simp only [List.set_cons_zero, List.set_cons_succ, setAll, List.setIfInBounds_toArray] at S) | ((with_reducible refine tot_done ?ht ?_); (case ht => kernel_rfl)) | ((with_reducible apply wps_alloca (E := 23) S); (case hz => exact Tryz.zeroValue23); clear S; intro bz wz S) | ((with_reducible apply wps_load S 0); (case hx | hi | hu => rfl); (case hT => decide +kernel)) | ((with_reducible apply wps_loada (T := 23) (k := 3) S 0); (case hx | hi => rfl); (case hk => exact Nat.le_of_ble_eq_true rfl); (case hT => decide +kernel))
                          refine ⟨_, S, ?_⟩
                          clear S
                          (refine W_mid (f := 0) (soft := [5, 6]) rfl ?hB ?_); (case hB => decide +kernel)
                          iterate 2
                            (with_reducible apply softs_cons)
                            (case hw =>
                              (with_reducible apply soft_of); (case hi => rfl)
                              intro T wz S
                              simp only [List.cons_append, List.nil_append] at S
                              go_wp2_with first | go_skip | ((with_reducible apply wps_loada (T := 23) (k := 3) S 0); (case hx | hi => rfl); (case hk => exact Nat.le_of_ble_eq_true rfl); (case hT => decide +kernel)) | ((with_reducible apply wps_load_own icells S 1 (hj := H0I.out) (q := 0) (u := .int .i64 (zn : Int))); (case hx | hi => rfl); (case hn => omega); (case hu => rfl); (case hT => decide +kernel)) | ((with_reducible apply wps_storea (T := 23) S 2 (vs := [.int .i64 k, .int .i64 za, .int .i64 zb]) (m := 3)); (case hx | hy | hi | hm | h1 => rfl); (case hn => exact Nat.le_of_ble_eq_true rfl); (case hT => decide +kernel); clear S; intro wz S; simp only [List.set_cons_zero, List.set_cons_succ, setAll, List.setIfInBounds_toArray] at S) | ((with_reducible refine tot_done ?ht ?_); (case ht => kernel_rfl)) | ((with_reducible apply wps_alloca (E := 23) S); (case hz => exact Tryz.zeroValue23); clear S; intro bz wz S) | ((with_reducible apply wps_load S 0); (case hx | hi | hu => rfl); (case hT => decide +kernel)) | ((with_reducible apply wps_loada (T := 23) (k := 3) S 0); (case hx | hi => rfl); (case hk => exact Nat.le_of_ble_eq_true rfl); (case hT => decide +kernel))
                              exact ⟨rfl, S⟩)
                            (case hs => exact ⟨_, rfl, by kernel_rfl⟩)
                          refine softs_nil ?_
                          (with_reducible apply W_done); (case hn => rfl); (case hr => decide +kernel)
                          intro wz S
                          repeat (first | simp only at S | simp only [pick] at S | simp only [nth] at S | simp only [List.set_cons_succ] at S | simp only [List.set_cons_zero] at S | simp only [List.setIfInBounds_toArray] at S | simp only [setAll] at S | simp only [List.cons_append] at S | simp only [List.nil_append] at S | simp only [List.append_nil] at S)
                          go_wp2_with first | go_skip | ((with_reducible refine wpList_skip ?hw ?_); (case hw => with_unfolding_all rfl); simp only [Act.put, List.setIfInBounds_toArray, List.set_cons_succ, List.set_cons_zero]) | ((with_reducible refine tot_done ?ht ?_); (case ht => kernel_rfl)) | ((with_reducible apply wps_text S); (case hm => kernel_rfl); (case hB => decide +kernel); clear S; intro wz S) | ((with_reducible apply wps_alloca (E := 23) S); (case hz => exact Tryz.zeroValue23); clear S; intro bz wz S) | ((with_reducible apply wps_load S 0); (case hx | hi | hu => rfl); (case hT => decide +kernel)) | ((with_reducible apply wps_loada (T := 23) (k := 3) S 0); (case hx | hi => rfl); (case hk => exact Nat.le_of_ble_eq_true rfl); (case hT => decide +kernel))
                          (try simp only [Exit.inBlock, Exit.then]); refine bodyPost_ret (results3 rfl (S.resA 2 rfl rfl (by kernel_rfl)) (res_tmp rfl) (res_tmp rfl)) rfl ?_
                          rw [HR.out]
                          exact ⟨rfl, S.below⟩
                        · exact absurd hln3 (by simp)
                · have HR : Hid (lineE (w0 :: f) = (⟨0, 0, 0⟩, 0, 15)) := Lib.hid (by rw [HQ.out]; unfold lineT; rw [if_pos (.inr hml)])
                  have hml2 : (((tn : Nat) : Int) != (fm.2 : Int)) = true := by
                    rw [bne_iff_ne, HFK.out]
                    intro e; apply hml; omega
                  clear hml hTl
                  as_aux_lemma =>
                    go_wp2_with first | go_skip | ((with_reducible refine wpList_skip ?hw ?_); (case hw => with_unfolding_all rfl); simp only [Act.put, List.setIfInBounds_toArray, List.set_cons_succ, List.set_cons_zero]) | ((with_reducible apply wps_load_el S 3 (hj := HFM.out) (q := 1) (u := .int .i64 fm.2)); (case hx | hi => rfl); (case hn => omega); (case hu => rfl); (case hT => decide +kernel)) | ((with_reducible apply wps_storea (T := 23) S 1 (vs := [.int .i64 0, .int .i64 0, .int .i64 0]) (m := 3)); (case hx | hy | hi | hm | h1 => rfl); (case hn => exact Nat.le_of_ble_eq_true rfl); (case hT => decide +kernel); clear S; intro wz S; simp only [List.set_cons_zero, List.set_cons_succ, setAll, List.setIfInBounds_toArray] at S) | ((with_reducible refine tot_done ?ht ?_); (case ht => kernel_rfl)) | ((with_reducible apply wps_text S); (case hm => kernel_rfl); (case hB => decide +kernel); clear S; intro wz S) | ((with_reducible apply wps_alloca (E := 23) S); (case hz => exact Tryz.zeroValue23); clear S; intro bz wz S) | ((with_reducible apply wps_load S 0); (case hx | hi | hu => rfl); (case hT => decide +kernel)) | ((with_reducible apply wps_loada (T := 23) (k := 3) S 0); (case hx | hi => rfl); (case hk => exact Nat.le_of_ble_eq_true rfl); (case hT => decide +kernel)) | ((with_reducible apply wps_load S 1); (case hx | hi | hu => rfl); (case hT => decide +kernel)) | ((with_reducible apply wps_loada (T := 23) (k := 3) S 1); (case hx | hi => rfl); (case hk => exact Nat.le_of_ble_eq_true rfl); (case hT => decide +kernel))
                    (try simp only [Exit.inBlock, Exit.then]); refine bodyPost_ret (results3 rfl (S.resA 1 rfl rfl (by kernel_rfl)) (res_tmp rfl) (res_tmp rfl)) rfl ?_
                    rw [HR.out]
                    exact ⟨rfl, S.below⟩
            · obtain ⟨q1, q2⟩ := x_no ht hx
              have HQ : Hid (lineE (w0 :: f) = lineT k [49] f) := Lib.hid (by rw [HQ0.out, q1, q2])
              rw [decide_eq_false hx] at HHP
              have HSZ2 : Hid (∀ x ∈ [[49]] ++ f, x.length ≤ 4294967295) := Lib.hid (fun x hxm => by
                rcases List.mem_append.1 hxm with h | h
                · simp at h; subst h; simp
                · have := HWS.out x (List.mem_cons_of_mem _ h); omega)
              have HT : Hid (f.length = m + 1) := Lib.hid hm
              rw [hm] at S ⊢
              clear hx q1 q2 HQ0 hm hmt hmem hf0 ht
              go_upto_region 13 with first | go_skip | ((with_reducible refine wpList_skip ?hw ?_); (case hw => with_unfolding_all rfl); simp only [Act.put, List.setIfInBounds_toArray, List.set_cons_succ, List.set_cons_zero]) | ((with_reducible apply wps_load_el S 0 (hj := HMT.out) (q := 0) (u := strV t)); (case hx | hi => rfl); (case hn => omega); (case hu => rfl); (case hT => decide +kernel)) | (go_at_call 119; refine Calls.mono (HHP.out _) ?_; rintro e wz ⟨rfl, hE⟩; replace S := S.ext (Keep.of_below hE); clear hE) | ((with_reducible refine tot_done ?ht ?_); (case ht => kernel_rfl)) | ((with_reducible apply wps_text S); (case hm => kernel_rfl); (case hB => decide +kernel); clear S; intro wz S) | ((with_reducible apply wps_alloca (E := 23) S); (case hz => exact Tryz.zeroValue23); clear S; intro bz wz S) | ((with_reducible apply wps_load S 0); (case hx | hi | hu => rfl); (case hT => decide +kernel)) | ((with_reducible apply wps_loada (T := 23) (k := 3) S 0); (case hx | hi => rfl); (case hk => exact Nat.le_of_ble_eq_true rfl); (case hT => decide +kernel)) | ((with_reducible apply wps_load S 1); (case hx | hi | hu => rfl); (case hT => decide +kernel)) | ((with_reducible apply wps_loada (T := 23) (k := 3) S 1); (case hx | hi => rfl); (case hk => exact Nat.le_of_ble_eq_true rfl); (case hT => decide +kernel))
              obtain ⟨T, hT⟩ : ∃ T : List (List UInt8), T = f := ⟨_, rfl⟩
              have HT2 := HT.out
              rw [← hT] at S HT2
              replace HQ : Hid (lineE (w0 :: f) = lineT k [49] T) := by rw [hT]; exact HQ
              replace HSZ2 : Hid (∀ x ∈ [[49]] ++ T, x.length ≤ 4294967295) := by rw [hT]; exact HSZ2
              replace HT := Lib.hid HT2
              clear hT HT2
              generalize m + 1 = tn at *
              -- T: thing 0 (.slice az tn cz); W: [49]; tn: tn
              replace S := S.pick [0, 2, 3, 4] rfl
              simp only [pick, nth] at S
              have hTl := HT.out
              by_cases hk4 : k = 4
              · have HR : Hid (lineE (w0 :: f) = (⟨0, 0, 0⟩, 0, 15)) := Lib.hid (by rw [HQ.out]; unfold lineT; rw [if_pos (.inl hk4)])
                subst hk4
                clear hTl
                as_aux_lemma =>
                  go_wp2_with first | go_skip | ((with_reducible refine wpList_skip ?hw ?_); (case hw => with_unfolding_all rfl); simp only [Act.put, List.setIfInBounds_toArray, List.set_cons_succ, List.set_cons_zero]) | ((with_reducible apply wps_storea (T := 23) S 1 (vs := [.int .i64 0, .int .i64 0, .int .i64 0]) (m := 3)); (case hx | hy | hi | hm | h1 => rfl); (case hn => exact Nat.le_of_ble_eq_true rfl); (case hT => decide +kernel); clear S; intro wz S; simp only [List.set_cons_zero, List.set_cons_succ, setAll, List.setIfInBounds_toArray] at S) | ((with_reducible refine tot_done ?ht ?_); (case ht => kernel_rfl)) | ((with_reducible apply wps_text S); (case hm => kernel_rfl); (case hB => decide +kernel); clear S; intro wz S) | ((with_reducible apply wps_alloca (E := 23) S); (case hz => exact Tryz.zeroValue23); clear S; intro bz wz S) | ((with_reducible apply wps_load S 0); (case hx | hi | hu => rfl); (case hT => decide +kernel)) | ((with_reducible apply wps_loada (T := 23) (k := 3) S 0); (case hx | hi => rfl); (case hk => exact Nat.le_of_ble_eq_true rfl); (case hT => decide +kernel)) | ((with_reducible apply wps_load S 1); (case hx | hi | hu => rfl); (case hT => decide +kernel)) | ((with_reducible apply wps_loada (T := 23) (k := 3) S 1); (case hx | hi => rfl); (case hk => exact Nat.le_of_ble_eq_true rfl); (case hT => decide +kernel))
                  (try simp only [Exit.inBlock, Exit.then]); refine bodyPost_ret (results3 rfl (S.resA 1 rfl rfl (by kernel_rfl)) (res_tmp rfl) (res_tmp rfl)) rfl ?_
                  rw [HR.out]
                  exact ⟨rfl, S.below⟩
              · have hk5 : k < 4 := by omega
                obtain ⟨fm, hfm⟩ : ∃ x, formsL[k]? = some x := ⟨_, List.getElem?_eq_getElem (by rw [forms_len]; exact hk5)⟩
                have HFM := Lib.hid hfm
                have hk6 : ((k : Int) == 4) = false := by rw [beq_eq_false_iff_ne]; omega
                have HFK := Lib.hid (forms_many hfm)
                clear hfm
                by_cases hml : T.length = manyE k
                · have hml2 : (((tn : Nat) : Int) != (fm.2 : Int)) = false := by
                    rw [bne_eq_false_iff_eq, HFK.out, ← hml, hTl]
                  have HTL : Hid (T.length ≤ 2) := Lib.hid (by rw [hml]; unfold manyE; split; omega; split <;> omega)
                  have HNM : Hid (lineE (w0 :: f) = if numsE (([49]) :: T) ≠ 0 then (⟨0, 0, 0⟩, 0, numsE (([49]) :: T)) else if (numE ([49])).1 = 0 then (⟨0, 0, 0⟩, 0, 10) else (⟨k, nthE T 0, nthE T 1⟩, (numE ([49])).1, 0)) := Lib.hid (by
                    rw [HQ.out]; unfold lineT; rw [if_neg (by rw [hml]; simp; omega)])
                  have hln3 : T.length ≤ 2 := HTL.out
                  have hln4 : tn ≤ 2 := by omega
                  have HNUM : Hid (∀ v w F F2, (Sl true strcell 1 v ([[49]] ++ T)).at_ w F → (LibA tE pE).at_ w F2 → Calls Tryz.prog 120 #[v] w (NumsPost ([[49]] ++ T) w)) := Lib.hid fun v w F F2 h h2 => nums_calls tE pE v _ w F F2 h h2 (by simp; omega) HSZ2.out
                  clear hml hTl HTL
                  as_aux_lemma =>
                    go_upto_region 16 with first | go_skip | ((with_reducible refine wpList_skip ?hw ?_); (case hw => with_unfolding_all rfl); simp only [Act.put, List.setIfInBounds_toArray, List.set_cons_succ, List.set_cons_zero]) | ((with_reducible apply wps_load_el S 3 (hj := HFM.out) (q := 1) (u := .int .i64 fm.2)); (case hx | hi => rfl); (case hn => omega); (case hu => rfl); (case hT => decide +kernel)) | ((with_reducible apply wps_build11 (T := 174) (E := 9) S); (case hx => rfl); (case hr => intro w; kernel_rfl); clear S; intro bz wz S; replace S := S.ownOne strcell 1 ([49]) rfl rfl) | ((with_reducible apply wps_appends elem_Str strcells strone (by decide) S 0 (j := 1)); (case hx | hy | hi | hj => rfl); (case hl => first | omega | (simp; omega)); clear S; intro az nz cz wz hnz S; simp only [List.set_cons_zero] at S) | ((with_reducible refine tot_done ?ht ?_); (case ht => kernel_rfl)) | ((with_reducible apply wps_text S); (case hm => kernel_rfl); (case hB => decide +kernel); clear S; intro wz S) | ((with_reducible apply wps_alloca (E := 23) S); (case hz => exact Tryz.zeroValue23); clear S; intro bz wz S) | ((with_reducible apply wps_load S 0); (case hx | hi | hu => rfl); (case hT => decide +kernel)) | ((with_reducible apply wps_loada (T := 23) (k := 3) S 0); (case hx | hi => rfl); (case hk => exact Nat.le_of_ble_eq_true rfl); (case hT => decide +kernel)) | ((with_reducible apply wps_load S 1); (case hx | hi | hu => rfl); (case hT => decide +kernel)) | ((with_reducible apply wps_loada (T := 23) (k := 3) S 1); (case hx | hi => rfl); (case hk => exact Nat.le_of_ble_eq_true rfl); (case hT => decide +kernel))
                    refine Calls.mono (HNUM.out _ _ _ _ (own_sl (sh := true) strcells (S.get (i := 0) rfl).choose_spec) (S.get (i := 3) rfl).choose_spec) ?_
                    clear HNUM
                    rintro e wz (⟨hne2, rfl, hE⟩ | ⟨hz2, ai, ci, rfl, TI⟩)
                    · replace S := S.ext (Keep.of_below hE)
                      have HR : Hid (lineE (w0 :: f) = (⟨0, 0, 0⟩, 0, numsE ([[49]] ++ T))) := Lib.hid (by rw [HNM.out]; exact if_pos hne2)
                      have hne3 : (numsE ([[49]] ++ T) != 0) = true := by rw [bne_iff_ne]; exact hne2
                      clear hE hne2 HNM
                      generalize numsE ([[49]] ++ T) = en at *
                      go_wp2_with first | go_skip | ((with_reducible refine wpList_skip ?hw ?_); (case hw => with_unfolding_all rfl); simp only [Act.put, List.setIfInBounds_toArray, List.set_cons_succ, List.set_cons_zero]) | ((with_reducible apply wps_storea (T := 23) S 2 (vs := [.int .i64 0, .int .i64 0, .int .i64 0]) (m := 3)); (case hx | hy | hi | hm | h1 => rfl); (case hn => exact Nat.le_of_ble_eq_true rfl); (case hT => decide +kernel); clear S; intro wz S; simp only [List.set_cons_zero, List.set_cons_succ, setAll, List.setIfInBounds_toArray] at S) | ((with_reducible refine tot_done ?ht ?_); (case ht => kernel_rfl)) | ((with_reducible apply wps_text S); (case hm => kernel_rfl); (case hB => decide +kernel); clear S; intro wz S) | ((with_reducible apply wps_alloca (E := 23) S); (case hz => exact Tryz.zeroValue23); clear S; intro bz wz S) | ((with_reducible apply wps_load S 0); (case hx | hi | hu => rfl); (case hT => decide +kernel)) | ((with_reducible apply wps_loada (T := 23) (k := 3) S 0); (case hx | hi => rfl); (case hk => exact Nat.le_of_ble_eq_true rfl); (case hT => decide +kernel)) | ((with_reducible apply wps_load S 1); (case hx | hi | hu => rfl); (case hT => decide +kernel)) | ((with_reducible apply wps_loada (T := 23) (k := 3) S 1); (case hx | hi => rfl); (case hk => exact Nat.le_of_ble_eq_true rfl); (case hT => decide +kernel))
                      (try simp only [Exit.inBlock, Exit.then]); refine bodyPost_ret (results3 rfl (S.resA 2 rfl rfl (by kernel_rfl)) (res_tmp rfl) (res_tmp rfl)) rfl ?_
                      rw [HR.out]
                      exact ⟨rfl, S.below⟩
                    · replace S := S.join TI rfl
                      simp only [List.cons_append, List.nil_append] at S
                      clear TI
                      obtain ⟨Ri, ci2, eqi⟩ := sown_hd 0 S rfl (by simp)
                      simp only [Value.slice.injEq] at eqi
                      obtain ⟨rfl, _, rfl⟩ := eqi
                      have H0I : Hid ((([49] :: T).map fun x => ((numE x).1 : Int))[0]? = some ((numE ([49])).1 : Int)) := Lib.hid rfl
                      by_cases hz0 : (numE ([49])).1 = 0
                      · have HR : Hid (lineE (w0 :: f) = (⟨0, 0, 0⟩, 0, 10)) := Lib.hid (by rw [HNM.out, if_neg (fun q => q hz2), if_pos hz0])
                        have hz3 : (((numE ([49])).1 : Int) == 0) = true := by rw [hz0]; rfl
                        clear HNM hz0 hz2
                        generalize ((numE ([49])).1 : Int) = z at *
                        go_wp2_with first | go_skip | ((with_reducible refine wpList_skip ?hw ?_); (case hw => with_unfolding_all rfl); simp only [Act.put, List.setIfInBounds_toArray, List.set_cons_succ, List.set_cons_zero]) | ((with_reducible apply wps_load_own icells S 0 (hj := H0I.out) (q := 0) (u := .int .i64 z)); (case hx | hi => rfl); (case hn => omega); (case hu => rfl); (case hT => decide +kernel)) | ((with_reducible apply wps_storea (T := 23) S 3 (vs := [.int .i64 0, .int .i64 0, .int .i64 0]) (m := 3)); (case hx | hy | hi | hm | h1 => rfl); (case hn => exact Nat.le_of_ble_eq_true rfl); (case hT => decide +kernel); clear S; intro wz S; simp only [List.set_cons_zero, List.set_cons_succ, setAll, List.setIfInBounds_toArray] at S) | ((with_reducible refine tot_done ?ht ?_); (case ht => kernel_rfl)) | ((with_reducible apply wps_text S); (case hm => kernel_rfl); (case hB => decide +kernel); clear S; intro wz S) | ((with_reducible apply wps_alloca (E := 23) S); (case hz => exact Tryz.zeroValue23); clear S; intro bz wz S) | ((with_reducible apply wps_load S 0); (case hx | hi | hu => rfl); (case hT => decide +kernel)) | ((with_reducible apply wps_loada (T := 23) (k := 3) S 0); (case hx | hi => rfl); (case hk => exact Nat.le_of_ble_eq_true rfl); (case hT => decide +kernel)) | ((with_reducible apply wps_load S 1); (case hx | hi | hu => rfl); (case hT => decide +kernel)) | ((with_reducible apply wps_loada (T := 23) (k := 3) S 1); (case hx | hi => rfl); (case hk => exact Nat.le_of_ble_eq_true rfl); (case hT => decide +kernel))
                        (try simp only [Exit.inBlock, Exit.then]); refine bodyPost_ret (results3 rfl (S.resA 3 rfl rfl (by kernel_rfl)) (res_tmp rfl) (res_tmp rfl)) rfl ?_
                        rw [HR.out]
                        exact ⟨rfl, S.below⟩
                      · have HR : Hid (lineE (w0 :: f) = (⟨k, nthE T 0, nthE T 1⟩, (numE ([49])).1, 0)) := Lib.hid (by rw [HNM.out, if_neg (fun q => q hz2), if_neg hz0])
                        have hz3 : (((numE ([49])).1 : Int) == 0) = false := by rw [beq_eq_false_iff_ne]; omega
                        clear HNM hz0 hz2
                        generalize (numE ([49])).1 = zn at *
                        rcases T with _ | ⟨a, _ | ⟨b, _ | ⟨c, T⟩⟩⟩
                        · clear HSZ2
                          have hq := HT.out
                          rw [List.length_nil] at hq
                          subst hq
                          go_upto_region 25 with first | go_skip | ((with_reducible refine wpList_skip ?hw ?_); (case hw => with_unfolding_all rfl); simp only [Act.put, List.setIfInBounds_toArray, List.set_cons_succ, List.set_cons_zero]) | ((with_reducible apply wps_load_own icells S 0 (hj := H0I.out) (q := 0) (u := .int .i64 (zn : Int))); (case hx | hi => rfl); (case hn => omega); (case hu => rfl); (case hT => decide +kernel)) | ((with_reducible apply wps_alloca (E := 23) S); (case hz => exact Tryz.zeroValue23); clear S; intro bd wz S) | ((with_reducible apply wps_storea (T := 23) S 0 (vs := [.int .i64 k, .int .i64 0, .int .i64 0]) (m := 3)); (case hx | hy | hi | hm | h1 => rfl); (case hn => exact Nat.le_of_ble_eq_true rfl); (case hT => decide +kernel); clear S; intro wz S; simp only [List.set_cons_zero, List.set_cons_succ, setAll, List.setIfInBounds_toArray] at S) | ((with_reducible refine tot_done ?ht ?_); (case ht => kernel_rfl)) | ((with_reducible apply wps_text S); (case hm => kernel_rfl); (case hB => decide +kernel); clear S; intro wz S) | ((with_reducible apply wps_alloca (E := 23) S); (case hz => exact Tryz.zeroValue23); clear S; intro bz wz S) | ((with_reducible apply wps_load S 0); (case hx | hi | hu => rfl); (case hT => decide +kernel)) | ((with_reducible apply wps_loada (T := 23) (k := 3) S 0); (case hx | hi => rfl); (case hk => exact Nat.le_of_ble_eq_true rfl); (case hT => decide +kernel)) | ((with_reducible apply wps_load S 1); (case hx | hi | hu => rfl); (case hT => decide +kernel)) | ((with_reducible apply wps_loada (T := 23) (k := 3) S 1); (case hx | hi => rfl); (case hk => exact Nat.le_of_ble_eq_true rfl); (case hT => decide +kernel))
                          replace S := S.pick [0, 1, 4] rfl
                          simp only [pick, nth] at S
                          (refine wp_region_wt (soft := [0, 1, 2, 3]) (L := [_, _]) (T := [_]) S ?hm ?hB ?_); (case hm => kernel_rfl); (case hB => decide +kernel); clear S
                          iterate 4
                            (with_reducible apply softs_cons)
                            (case hw =>
                              (with_reducible apply soft_of); (case hi => rfl)
                              intro T wz S
                              simp only [List.cons_append, List.nil_append] at S
                              go_wp2_with first | go_skip | ((with_reducible apply wps_loada (T := 23) (k := 3) S 0); (case hx | hi => rfl); (case hk => exact Nat.le_of_ble_eq_true rfl); (case hT => decide +kernel)) | ((with_reducible apply wps_load_own icells S 1 (hj := H0I.out) (q := 0) (u := .int .i64 (zn : Int))); (case hx | hi => rfl); (case hn => omega); (case hu => rfl); (case hT => decide +kernel)) | ((with_reducible apply wps_storea (T := 23) S 2 (vs := [.int .i64 k, .int .i64 0, .int .i64 0]) (m := 3)); (case hx | hy | hi | hm | h1 => rfl); (case hn => exact Nat.le_of_ble_eq_true rfl); (case hT => decide +kernel); clear S; intro wz S; simp only [List.set_cons_zero, List.set_cons_succ, setAll, List.setIfInBounds_toArray] at S) | ((with_reducible refine tot_done ?ht ?_); (case ht => kernel_rfl)) | ((with_reducible apply wps_alloca (E := 23) S); (case hz => exact Tryz.zeroValue23); clear S; intro bz wz S) | ((with_reducible apply wps_load S 0); (case hx | hi | hu => rfl); (case hT => decide +kernel)) | ((with_reducible apply wps_loada (T := 23) (k := 3) S 0); (case hx | hi => rfl); (case hk => exact Nat.le_of_ble_eq_true rfl); (case hT => decide +kernel))
                              exact ⟨rfl, S⟩)
                            (case hs => exact ⟨_, rfl, by kernel_rfl⟩)
                          refine softs_nil ?_
                          (with_reducible apply W_hard1 (i := 4)); (case hn => rfl); (case hr => decide +kernel)
                          intro wz S
                          (with_reducible apply hard_of); (case hi => rfl)
                          simp only [List.cons_append, List.nil_append] at S
                          go_wp2_with first | go_skip | ((with_reducible apply wps_loada (T := 23) (k := 3) S 0); (case hx | hi => rfl); (case hk => exact Nat.le_of_ble_eq_true rfl); (case hT => decide +kernel)) | ((with_reducible apply wps_load_own icells S 1 (hj := H0I.out) (q := 0) (u := .int .i64 (zn : Int))); (case hx | hi => rfl); (case hn => omega); (case hu => rfl); (case hT => decide +kernel)) | ((with_reducible apply wps_storea (T := 23) S 2 (vs := [.int .i64 k, .int .i64 0, .int .i64 0]) (m := 3)); (case hx | hy | hi | hm | h1 => rfl); (case hn => exact Nat.le_of_ble_eq_true rfl); (case hT => decide +kernel); clear S; intro wz S; simp only [List.set_cons_zero, List.set_cons_succ, setAll, List.setIfInBounds_toArray] at S) | ((with_reducible refine tot_done ?ht ?_); (case ht => kernel_rfl)) | ((with_reducible apply wps_alloca (E := 23) S); (case hz => exact Tryz.zeroValue23); clear S; intro bz wz S) | ((with_reducible apply wps_load S 0); (case hx | hi | hu => rfl); (case hT => decide +kernel)) | ((with_reducible apply wps_loada (T := 23) (k := 3) S 0); (case hx | hi => rfl); (case hk => exact Nat.le_of_ble_eq_true rfl); (case hT => decide +kernel))
                          refine ⟨_, S, ?_⟩
                          clear S
                          (refine W_mid (f := 0) (soft := [5, 6]) rfl ?hB ?_); (case hB => decide +kernel)
                          iterate 2
                            (with_reducible apply softs_cons)
                            (case hw =>
                              (with_reducible apply soft_of); (case hi => rfl)
                              intro T wz S
                              simp only [List.cons_append, List.nil_append] at S
                              go_wp2_with first | go_skip | ((with_reducible apply wps_loada (T := 23) (k := 3) S 0); (case hx | hi => rfl); (case hk => exact Nat.le_of_ble_eq_true rfl); (case hT => decide +kernel)) | ((with_reducible apply wps_load_own icells S 1 (hj := H0I.out) (q := 0) (u := .int .i64 (zn : Int))); (case hx | hi => rfl); (case hn => omega); (case hu => rfl); (case hT => decide +kernel)) | ((with_reducible apply wps_storea (T := 23) S 2 (vs := [.int .i64 k, .int .i64 0, .int .i64 0]) (m := 3)); (case hx | hy | hi | hm | h1 => rfl); (case hn => exact Nat.le_of_ble_eq_true rfl); (case hT => decide +kernel); clear S; intro wz S; simp only [List.set_cons_zero, List.set_cons_succ, setAll, List.setIfInBounds_toArray] at S) | ((with_reducible refine tot_done ?ht ?_); (case ht => kernel_rfl)) | ((with_reducible apply wps_alloca (E := 23) S); (case hz => exact Tryz.zeroValue23); clear S; intro bz wz S) | ((with_reducible apply wps_load S 0); (case hx | hi | hu => rfl); (case hT => decide +kernel)) | ((with_reducible apply wps_loada (T := 23) (k := 3) S 0); (case hx | hi => rfl); (case hk => exact Nat.le_of_ble_eq_true rfl); (case hT => decide +kernel))
                              exact ⟨rfl, S⟩)
                            (case hs => exact ⟨_, rfl, by kernel_rfl⟩)
                          refine softs_nil ?_
                          (with_reducible apply W_done); (case hn => rfl); (case hr => decide +kernel)
                          intro wz S
                          repeat (first | simp only at S | simp only [pick] at S | simp only [nth] at S | simp only [List.set_cons_succ] at S | simp only [List.set_cons_zero] at S | simp only [List.setIfInBounds_toArray] at S | simp only [setAll] at S | simp only [List.cons_append] at S | simp only [List.nil_append] at S | simp only [List.append_nil] at S)
                          go_wp2_with first | go_skip | ((with_reducible refine wpList_skip ?hw ?_); (case hw => with_unfolding_all rfl); simp only [Act.put, List.setIfInBounds_toArray, List.set_cons_succ, List.set_cons_zero]) | ((with_reducible refine tot_done ?ht ?_); (case ht => kernel_rfl)) | ((with_reducible apply wps_text S); (case hm => kernel_rfl); (case hB => decide +kernel); clear S; intro wz S) | ((with_reducible apply wps_alloca (E := 23) S); (case hz => exact Tryz.zeroValue23); clear S; intro bz wz S) | ((with_reducible apply wps_load S 0); (case hx | hi | hu => rfl); (case hT => decide +kernel)) | ((with_reducible apply wps_loada (T := 23) (k := 3) S 0); (case hx | hi => rfl); (case hk => exact Nat.le_of_ble_eq_true rfl); (case hT => decide +kernel))
                          (try simp only [Exit.inBlock, Exit.then]); refine bodyPost_ret (results3 rfl (S.resA 2 rfl rfl (by kernel_rfl)) (res_tmp rfl) (res_tmp rfl)) rfl ?_
                          rw [HR.out]
                          exact ⟨rfl, S.below⟩
                        · clear HSZ2
                          have hq : 1 = tn := HT.out
                          subst hq
                          have H1I : Hid ((([49] :: [a]).map fun x => ((numE x).1 : Int))[1]? = some ((numE a).1 : Int)) := Lib.hid rfl
                          have HNA : Hid (nthE [a] 0 = ((numE a).1 : Int)) := Lib.hid rfl
                          have HNB : Hid (nthE [a] 1 = 0) := Lib.hid rfl
                          generalize ((numE a).1 : Int) = za at *
                          rw [HNA.out, HNB.out] at HR
                          clear HNA HNB
                          go_upto_region 25 with first | go_skip | ((with_reducible refine wpList_skip ?hw ?_); (case hw => with_unfolding_all rfl); simp only [Act.put, List.setIfInBounds_toArray, List.set_cons_succ, List.set_cons_zero]) | ((with_reducible apply wps_load_own icells S 0 (hj := H0I.out) (q := 0) (u := .int .i64 (zn : Int))); (case hx | hi => rfl); (case hn => omega); (case hu => rfl); (case hT => decide +kernel)) | ((with_reducible apply wps_load_own icells S 1 (hj := H1I.out) (q := 0) (u := .int .i64 za)); (case hx | hi => rfl); (case hn => omega); (case hu => rfl); (case hT => decide +kernel)) | ((with_reducible apply wps_store (u := .int .i64 za) S 0); (case hx | hy | hi | h1 => rfl); (case hn => exact Nat.le_of_ble_eq_true rfl); (case hT => decide +kernel); clear S; intro wz S; simp only [List.set_cons_succ, List.set_cons_zero, List.setIfInBounds_toArray] at S) | ((with_reducible apply wps_alloca (E := 23) S); (case hz => exact Tryz.zeroValue23); clear S; intro bd wz S) | ((with_reducible apply wps_storea (T := 23) S 0 (vs := [.int .i64 k, .int .i64 0, .int .i64 0]) (m := 3)); (case hx | hy | hi | hm | h1 => rfl); (case hn => exact Nat.le_of_ble_eq_true rfl); (case hT => decide +kernel); clear S; intro wz S; simp only [List.set_cons_zero, List.set_cons_succ, setAll, List.setIfInBounds_toArray] at S) | ((with_reducible refine tot_done ?ht ?_); (case ht => kernel_rfl)) | ((with_reducible apply wps_text S); (case hm => kernel_rfl); (case hB => decide +kernel); clear S; intro wz S) | ((with_reducible apply wps_alloca (E := 23) S); (case hz => exact Tryz.zeroValue23); clear S; intro bz wz S) | ((with_reducible apply wps_load S 0); (case hx | hi | hu => rfl); (case hT => decide +kernel)) | ((with_reducible apply wps_loada (T := 23) (k := 3) S 0); (case hx | hi => rfl); (case hk => exact Nat.le_of_ble_eq_true rfl); (case hT => decide +kernel)) | ((with_reducible apply wps_load S 1); (case hx | hi | hu => rfl); (case hT => decide +kernel)) | ((with_reducible apply wps_loada (T := 23) (k := 3) S 1); (case hx | hi => rfl); (case hk => exact Nat.le_of_ble_eq_true rfl); (case hT => decide +kernel))
                          replace S := S.pick [0, 1, 4] rfl
                          simp only [pick, nth] at S
                          (refine wp_region_wt (soft := [0, 1, 2, 3]) (L := [_, _]) (T := [_]) S ?hm ?hB ?_); (case hm => kernel_rfl); (case hB => decide +kernel); clear S
                          iterate 4
                            (with_reducible apply softs_cons)
                            (case hw =>
                              (with_reducible apply soft_of); (case hi => rfl)
                              intro T wz S
                              simp only [List.cons_append, List.nil_append] at S
                              go_wp2_with first | go_skip | ((with_reducible apply wps_loada (T := 23) (k := 3) S 0); (case hx | hi => rfl); (case hk => exact Nat.le_of_ble_eq_true rfl); (case hT => decide +kernel)) | ((with_reducible apply wps_load_own icells S 1 (hj := H0I.out) (q := 0) (u := .int .i64 (zn : Int))); (case hx | hi => rfl); (case hn => omega); (case hu => rfl); (case hT => decide +kernel)) | ((with_reducible apply wps_storea (T := 23) S 2 (vs := [.int .i64 k, .int .i64 za, .int .i64 0]) (m := 3)); (case hx | hy | hi | hm | h1 => rfl); (case hn => exact Nat.le_of_ble_eq_true rfl); (case hT => decide +kernel); clear S; intro wz S; simp only [List.set_cons_zero, List.set_cons_succ, setAll, List.setIfInBounds_toArray] at S) | ((with_reducible refine tot_done ?ht ?_); (case ht => kernel_rfl)) | ((with_reducible apply wps_alloca (E := 23) S); (case hz => exact Tryz.zeroValue23); clear S; intro bz wz S) | ((with_reducible apply wps_load S 0); (case hx | hi | hu => rfl); (case hT => decide +kernel)) | ((with_reducible apply wps_loada (T := 23) (k := 3) S 0); (case hx | hi => rfl); (case hk => exact Nat.le_of_ble_eq_true rfl); (case hT => decide +kernel))
                              exact ⟨rfl, S⟩)
                            (case hs => exact ⟨_, rfl, by kernel_rfl⟩)
                          refine softs_nil ?_
                          (with_reducible apply W_hard1 (i := 4)); (case hn => rfl); (case hr => decide +kernel)
                          intro wz S
                          (with_reducible apply hard_of); (case hi => rfl)
                          simp only [List.cons_append, List.nil_append] at S
                          go_wp2_with first | go_skip | ((with_reducible apply wps_loada (T := 23) (k := 3) S 0); (case hx | hi => rfl); (case hk => exact Nat.le_of_ble_eq_true rfl); (case hT => decide +kernel)) | ((with_reducible apply wps_load_own icells S 1 (hj := H0I.out) (q := 0) (u := .int .i64 (zn : Int))); (case hx | hi => rfl); (case hn => omega); (case hu => rfl); (case hT => decide +kernel)) | ((with_reducible apply wps_storea (T := 23) S 2 (vs := [.int .i64 k, .int .i64 za, .int .i64 0]) (m := 3)); (case hx | hy | hi | hm | h1 => rfl); (case hn => exact Nat.le_of_ble_eq_true rfl); (case hT => decide +kernel); clear S; intro wz S; simp only [List.set_cons_zero, List.set_cons_succ, setAll, List.setIfInBounds_toArray] at S) | ((with_reducible refine tot_done ?ht ?_); (case ht => kernel_rfl)) | ((with_reducible apply wps_alloca (E := 23) S); (case hz => exact Tryz.zeroValue23); clear S; intro bz wz S) | ((with_reducible apply wps_load S 0); (case hx | hi | hu => rfl); (case hT => decide +kernel)) | ((with_reducible apply wps_loada (T := 23) (k := 3) S 0); (case hx | hi => rfl); (case hk => exact Nat.le_of_ble_eq_true rfl); (case hT => decide +kernel))
                          refine ⟨_, S, ?_⟩
                          clear S
                          (refine W_mid (f := 0) (soft := [5, 6]) rfl ?hB ?_); (case hB => decide +kernel)
                          iterate 2
                            (with_reducible apply softs_cons)
                            (case hw =>
                              (with_reducible apply soft_of); (case hi => rfl)
                              intro T wz S
                              simp only [List.cons_append, List.nil_append] at S
                              go_wp2_with first | go_skip | ((with_reducible apply wps_loada (T := 23) (k := 3) S 0); (case hx | hi => rfl); (case hk => exact Nat.le_of_ble_eq_true rfl); (case hT => decide +kernel)) | ((with_reducible apply wps_load_own icells S 1 (hj := H0I.out) (q := 0) (u := .int .i64 (zn : Int))); (case hx | hi => rfl); (case hn => omega); (case hu => rfl); (case hT => decide +kernel)) | ((with_reducible apply wps_storea (T := 23) S 2 (vs := [.int .i64 k, .int .i64 za, .int .i64 0]) (m := 3)); (case hx | hy | hi | hm | h1 => rfl); (case hn => exact Nat.le_of_ble_eq_true rfl); (case hT => decide +kernel); clear S; intro wz S; simp only [List.set_cons_zero, List.set_cons_succ, setAll, List.setIfInBounds_toArray] at S) | ((with_reducible refine tot_done ?ht ?_); (case ht => kernel_rfl)) | ((with_reducible apply wps_alloca (E := 23) S); (case hz => exact Tryz.zeroValue23); clear S; intro bz wz S) | ((with_reducible apply wps_load S 0); (case hx | hi | hu => rfl); (case hT => decide +kernel)) | ((with_reducible apply wps_loada (T := 23) (k := 3) S 0); (case hx | hi => rfl); (case hk => exact Nat.le_of_ble_eq_true rfl); (case hT => decide +kernel))
                              exact ⟨rfl, S⟩)
                            (case hs => exact ⟨_, rfl, by kernel_rfl⟩)
                          refine softs_nil ?_
                          (with_reducible apply W_done); (case hn => rfl); (case hr => decide +kernel)
                          intro wz S
                          repeat (first | simp only at S | simp only [pick] at S | simp only [nth] at S | simp only [List.set_cons_succ] at S | simp only [List.set_cons_zero] at S | simp only [List.setIfInBounds_toArray] at S | simp only [setAll] at S | simp only [List.cons_append] at S | simp only [List.nil_append] at S | simp only [List.append_nil] at S)
                          go_wp2_with first | go_skip | ((with_reducible refine wpList_skip ?hw ?_); (case hw => with_unfolding_all rfl); simp only [Act.put, List.setIfInBounds_toArray, List.set_cons_succ, List.set_cons_zero]) | ((with_reducible refine tot_done ?ht ?_); (case ht => kernel_rfl)) | ((with_reducible apply wps_text S); (case hm => kernel_rfl); (case hB => decide +kernel); clear S; intro wz S) | ((with_reducible apply wps_alloca (E := 23) S); (case hz => exact Tryz.zeroValue23); clear S; intro bz wz S) | ((with_reducible apply wps_load S 0); (case hx | hi | hu => rfl); (case hT => decide +kernel)) | ((with_reducible apply wps_loada (T := 23) (k := 3) S 0); (case hx | hi => rfl); (case hk => exact Nat.le_of_ble_eq_true rfl); (case hT => decide +kernel))
                          (try simp only [Exit.inBlock, Exit.then]); refine bodyPost_ret (results3 rfl (S.resA 2 rfl rfl (by kernel_rfl)) (res_tmp rfl) (res_tmp rfl)) rfl ?_
                          rw [HR.out]
                          exact ⟨rfl, S.below⟩
                        · clear HSZ2
                          have hq : 2 = tn := HT.out
                          subst hq
                          have H1I : Hid ((([49] :: [a, b]).map fun x => ((numE x).1 : Int))[1]? = some ((numE a).1 : Int)) := Lib.hid rfl
                          have H2I : Hid ((([49] :: [a, b]).map fun x => ((numE x).1 : Int))[2]? = some ((numE b).1 : Int)) := Lib.hid rfl
                          have HNA : Hid (nthE [a, b] 0 = ((numE a).1 : Int)) := Lib.hid rfl
                          have HNB : Hid (nthE [a, b] 1 = ((numE b).1 : Int)) := Lib.hid rfl
                          generalize ((numE a).1 : Int) = za at *
                          generalize ((numE b).1 : Int) = zb at *
                          rw [HNA.out, HNB.out] at HR
                          clear HNA HNB
                          go_upto_region 25 with first | go_skip | ((with_reducible refine wpList_skip ?hw ?_); (case hw => with_unfolding_all rfl); simp only [Act.put, List.setIfInBounds_toArray, List.set_cons_succ, List.set_cons_zero]) | ((with_reducible apply wps_load_own icells S 0 (hj := H0I.out) (q := 0) (u := .int .i64 (zn : Int))); (case hx | hi => rfl); (case hn => omega); (case hu => rfl); (case hT => decide +kernel)) | ((with_reducible apply wps_load_own icells S 1 (hj := H1I.out) (q := 0) (u := .int .i64 za)); (case hx | hi => rfl); (case hn => omega); (case hu => rfl); (case hT => decide +kernel)) | ((with_reducible apply wps_store (u := .int .i64 za) S 0); (case hx | hy | hi | h1 => rfl); (case hn => exact Nat.le_of_ble_eq_true rfl); (case hT => decide +kernel); clear S; intro wz S; simp only [List.set_cons_succ, List.set_cons_zero, List.setIfInBounds_toArray] at S) | ((with_reducible apply wps_load_own icells S 1 (hj := H2I.out) (q := 0) (u := .int .i64 zb)); (case hx | hi => rfl); (case hn => omega); (case hu => rfl); (case hT => decide +kernel)) | ((with_reducible apply wps_store (u := .int .i64 zb) S 0); (case hx | hy | hi | h1 => rfl); (case hn => exact Nat.le_of_ble_eq_true rfl); (case hT => decide +kernel); clear S; intro wz S; simp only [List.set_cons_succ, List.set_cons_zero, List.setIfInBounds_toArray] at S) | ((with_reducible apply wps_alloca (E := 23) S); (case hz => exact Tryz.zeroValue23); clear S; intro bd wz S) | ((with_reducible apply wps_storea (T := 23) S 0 (vs := [.int .i64 k, .int .i64 0, .int .i64 0]) (m := 3)); (case hx | hy | hi | hm | h1 => rfl); (case hn => exact Nat.le_of_ble_eq_true rfl); (case hT => decide +kernel); clear S; intro wz S; simp only [List.set_cons_zero, List.set_cons_succ, setAll, List.setIfInBounds_toArray] at S) | ((with_reducible refine tot_done ?ht ?_); (case ht => kernel_rfl)) | ((with_reducible apply wps_text S); (case hm => kernel_rfl); (case hB => decide +kernel); clear S; intro wz S) | ((with_reducible apply wps_alloca (E := 23) S); (case hz => exact Tryz.zeroValue23); clear S; intro bz wz S) | ((with_reducible apply wps_load S 0); (case hx | hi | hu => rfl); (case hT => decide +kernel)) | ((with_reducible apply wps_loada (T := 23) (k := 3) S 0); (case hx | hi => rfl); (case hk => exact Nat.le_of_ble_eq_true rfl); (case hT => decide +kernel)) | ((with_reducible apply wps_load S 1); (case hx | hi | hu => rfl); (case hT => decide +kernel)) | ((with_reducible apply wps_loada (T := 23) (k := 3) S 1); (case hx | hi => rfl); (case hk => exact Nat.le_of_ble_eq_true rfl); (case hT => decide +kernel))
                          replace S := S.pick [0, 1, 4] rfl
                          simp only [pick, nth] at S
                          (refine wp_region_wt (soft := [0, 1, 2, 3]) (L := [_, _]) (T := [_]) S ?hm ?hB ?_); (case hm => kernel_rfl); (case hB => decide +kernel); clear S
                          iterate 4
                            (with_reducible apply softs_cons)
                            (case hw =>
                              (with_reducible apply soft_of); (case hi => rfl)
                              intro T wz S
                              simp only [List.cons_append, List.nil_append] at S
                              go_wp2_with first | go_skip | ((with_reducible apply wps_loada (T := 23) (k := 3) S 0); (case hx | hi => rfl); (case hk => exact Nat.le_of_ble_eq_true rfl); (case hT => decide +kernel)) | ((with_reducible apply wps_load_own icells S 1 (hj := H0I.out) (q := 0) (u := .int .i64 (zn : Int))); (case hx | hi => rfl); (case hn => omega); (case hu => rfl); (case hT => decide +kernel)) | ((with_reducible apply wps_storea (T := 23) S 2 (vs := [.int .i64 k, .int .i64 za, .int .i64 zb]) (m := 3)); (case hx | hy | hi | hm | h1 => rfl); (case hn => exact Nat.le_of_ble_eq_true rfl); (case hT => decide +kernel); clear S; intro wz S; simp only [List.set_cons_zero, List.set_cons_succ, setAll, List.setIfInBounds_toArray] at S) | ((with_reducible refine tot_done ?ht ?_); (case ht => kernel_rfl)) | ((with_reducible apply wps_alloca (E := 23) S); (case hz => exact Tryz.zeroValue23); clear S; intro bz wz S) | ((with_reducible apply wps_load S 0); (case hx | hi | hu => rfl); (case hT => decide +kernel)) | ((with_reducible apply wps_loada (T := 23) (k := 3) S 0); (case hx | hi => rfl); (case hk => exact Nat.le_of_ble_eq_true rfl); (case hT => decide +kernel))
                              exact ⟨rfl, S⟩)
                            (case hs => exact ⟨_, rfl, by kernel_rfl⟩)
                          refine softs_nil ?_
                          (with_reducible apply W_hard1 (i := 4)); (case hn => rfl); (case hr => decide +kernel)
                          intro wz S
                          (with_reducible apply hard_of); (case hi => rfl)
                          simp only [List.cons_append, List.nil_append] at S
                          go_wp2_with first | go_skip | ((with_reducible apply wps_loada (T := 23) (k := 3) S 0); (case hx | hi => rfl); (case hk => exact Nat.le_of_ble_eq_true rfl); (case hT => decide +kernel)) | ((with_reducible apply wps_load_own icells S 1 (hj := H0I.out) (q := 0) (u := .int .i64 (zn : Int))); (case hx | hi => rfl); (case hn => omega); (case hu => rfl); (case hT => decide +kernel)) | ((with_reducible apply wps_storea (T := 23) S 2 (vs := [.int .i64 k, .int .i64 za, .int .i64 zb]) (m := 3)); (case hx | hy | hi | hm | h1 => rfl); (case hn => exact Nat.le_of_ble_eq_true rfl); (case hT => decide +kernel); clear S; intro wz S; simp only [List.set_cons_zero, List.set_cons_succ, setAll, List.setIfInBounds_toArray] at S) | ((with_reducible refine tot_done ?ht ?_); (case ht => kernel_rfl)) | ((with_reducible apply wps_alloca (E := 23) S); (case hz => exact Tryz.zeroValue23); clear S; intro bz wz S) | ((with_reducible apply wps_load S 0); (case hx | hi | hu => rfl); (case hT => decide +kernel)) | ((with_reducible apply wps_loada (T := 23) (k := 3) S 0); (case hx | hi => rfl); (case hk => exact Nat.le_of_ble_eq_true rfl); (case hT => decide +kernel))
                          refine ⟨_, S, ?_⟩
                          clear S
                          (refine W_mid (f := 0) (soft := [5, 6]) rfl ?hB ?_); (case hB => decide +kernel)
                          iterate 2
                            (with_reducible apply softs_cons)
                            (case hw =>
                              (with_reducible apply soft_of); (case hi => rfl)
                              intro T wz S
                              simp only [List.cons_append, List.nil_append] at S
                              go_wp2_with first | go_skip | ((with_reducible apply wps_loada (T := 23) (k := 3) S 0); (case hx | hi => rfl); (case hk => exact Nat.le_of_ble_eq_true rfl); (case hT => decide +kernel)) | ((with_reducible apply wps_load_own icells S 1 (hj := H0I.out) (q := 0) (u := .int .i64 (zn : Int))); (case hx | hi => rfl); (case hn => omega); (case hu => rfl); (case hT => decide +kernel)) | ((with_reducible apply wps_storea (T := 23) S 2 (vs := [.int .i64 k, .int .i64 za, .int .i64 zb]) (m := 3)); (case hx | hy | hi | hm | h1 => rfl); (case hn => exact Nat.le_of_ble_eq_true rfl); (case hT => decide +kernel); clear S; intro wz S; simp only [List.set_cons_zero, List.set_cons_succ, setAll, List.setIfInBounds_toArray] at S) | ((with_reducible refine tot_done ?ht ?_); (case ht => kernel_rfl)) | ((with_reducible apply wps_alloca (E := 23) S); (case hz => exact Tryz.zeroValue23); clear S; intro bz wz S) | ((with_reducible apply wps_load S 0); (case hx | hi | hu => rfl); (case hT => decide +kernel)) | ((with_reducible apply wps_loada (T := 23) (k := 3) S 0); (case hx | hi => rfl); (case hk => exact Nat.le_of_ble_eq_true rfl); (case hT => decide +kernel))
                              exact ⟨rfl, S⟩)
                            (case hs => exact ⟨_, rfl, by kernel_rfl⟩)
                          refine softs_nil ?_
                          (with_reducible apply W_done); (case hn => rfl); (case hr => decide +kernel)
                          intro wz S
                          repeat (first | simp only at S | simp only [pick] at S | simp only [nth] at S | simp only [List.set_cons_succ] at S | simp only [List.set_cons_zero] at S | simp only [List.setIfInBounds_toArray] at S | simp only [setAll] at S | simp only [List.cons_append] at S | simp only [List.nil_append] at S | simp only [List.append_nil] at S)
                          go_wp2_with first | go_skip | ((with_reducible refine wpList_skip ?hw ?_); (case hw => with_unfolding_all rfl); simp only [Act.put, List.setIfInBounds_toArray, List.set_cons_succ, List.set_cons_zero]) | ((with_reducible refine tot_done ?ht ?_); (case ht => kernel_rfl)) | ((with_reducible apply wps_text S); (case hm => kernel_rfl); (case hB => decide +kernel); clear S; intro wz S) | ((with_reducible apply wps_alloca (E := 23) S); (case hz => exact Tryz.zeroValue23); clear S; intro bz wz S) | ((with_reducible apply wps_load S 0); (case hx | hi | hu => rfl); (case hT => decide +kernel)) | ((with_reducible apply wps_loada (T := 23) (k := 3) S 0); (case hx | hi => rfl); (case hk => exact Nat.le_of_ble_eq_true rfl); (case hT => decide +kernel))
                          (try simp only [Exit.inBlock, Exit.then]); refine bodyPost_ret (results3 rfl (S.resA 2 rfl rfl (by kernel_rfl)) (res_tmp rfl) (res_tmp rfl)) rfl ?_
                          rw [HR.out]
                          exact ⟨rfl, S.below⟩
                        · exact absurd hln3 (by simp)
                · have HR : Hid (lineE (w0 :: f) = (⟨0, 0, 0⟩, 0, 15)) := Lib.hid (by rw [HQ.out]; unfold lineT; rw [if_pos (.inr hml)])
                  have hml2 : (((tn : Nat) : Int) != (fm.2 : Int)) = true := by
                    rw [bne_iff_ne, HFK.out]
                    intro e; apply hml; omega
                  clear hml hTl
                  as_aux_lemma =>
                    go_wp2_with first | go_skip | ((with_reducible refine wpList_skip ?hw ?_); (case hw => with_unfolding_all rfl); simp only [Act.put, List.setIfInBounds_toArray, List.set_cons_succ, List.set_cons_zero]) | ((with_reducible apply wps_load_el S 3 (hj := HFM.out) (q := 1) (u := .int .i64 fm.2)); (case hx | hi => rfl); (case hn => omega); (case hu => rfl); (case hT => decide +kernel)) | ((with_reducible apply wps_storea (T := 23) S 1 (vs := [.int .i64 0, .int .i64 0, .int .i64 0]) (m := 3)); (case hx | hy | hi | hm | h1 => rfl); (case hn => exact Nat.le_of_ble_eq_true rfl); (case hT => decide +kernel); clear S; intro wz S; simp only [List.set_cons_zero, List.set_cons_succ, setAll, List.setIfInBounds_toArray] at S) | ((with_reducible refine tot_done ?ht ?_); (case ht => kernel_rfl)) | ((with_reducible apply wps_text S); (case hm => kernel_rfl); (case hB => decide +kernel); clear S; intro wz S) | ((with_reducible apply wps_alloca (E := 23) S); (case hz => exact Tryz.zeroValue23); clear S; intro bz wz S) | ((with_reducible apply wps_load S 0); (case hx | hi | hu => rfl); (case hT => decide +kernel)) | ((with_reducible apply wps_loada (T := 23) (k := 3) S 0); (case hx | hi => rfl); (case hk => exact Nat.le_of_ble_eq_true rfl); (case hT => decide +kernel)) | ((with_reducible apply wps_load S 1); (case hx | hi | hu => rfl); (case hT => decide +kernel)) | ((with_reducible apply wps_loada (T := 23) (k := 3) S 1); (case hx | hi => rfl); (case hk => exact Nat.le_of_ble_eq_true rfl); (case hT => decide +kernel))
                    (try simp only [Exit.inBlock, Exit.then]); refine bodyPost_ret (results3 rfl (S.resA 1 rfl rfl (by kernel_rfl)) (res_tmp rfl) (res_tmp rfl)) rfl ?_
                    rw [HR.out]
                    exact ⟨rfl, S.below⟩
        · have HK2 : Hid (∀ j x, j < k + 1 → formsL[j]? = some x → x.1 ≠ w0) := Lib.hid fun j x hj hx => by
            rcases Nat.lt_or_ge j k with h | h
            · exact HK.out j x h hx
            · obtain rfl : j = k := by omega
              rw [hfm] at hx; cases hx; exact hq
          have HQ0 : Hid (fm.1 ≠ w0) := Lib.hid hq
          clear hfm hq HK
          go_upto_region 6 with fail
          (refine wp_region_w (soft := [0, 1, 2, 3, 4, 5, 6, 7, 8, 9, 10, 11]) S ?hm ?hB ?_); (case hm => kernel_rfl); (case hB => decide +kernel); clear S
          iterate 12
            (with_reducible apply softs_cons)
            (case hw =>
              (with_reducible apply soft_of); (case hi => rfl)
              intro T wz S
              simp only [List.cons_append, List.nil_append] at S
              go_wp2_with first | go_skip | ((with_reducible apply wps_load_el S 3 (hj := HFM.out) (q := 0) (u := strV fm.1)); (case hx | hi => rfl); (case hn => omega); (case hu => rfl); (case hT => decide +kernel)) | ((with_reducible apply wps_load_el S 0 (hj := H0.out) (q := 0) (u := strV w0)); (case hx | hi => rfl); (case hn => omega); (case hu => rfl); (case hT => decide +kernel)) | ((with_reducible apply wps_sneq (T := 9)); (case hx | hy => rfl); (case hb => exact decide_eq_true HQ0.out)) | ((with_reducible refine tot_done ?ht ?_); (case ht => kernel_rfl)) | ((with_reducible apply wps_alloca (E := 23) S); (case hz => exact Tryz.zeroValue23); clear S; intro bz wz S) | ((with_reducible apply wps_load S 0); (case hx | hi | hu => rfl); (case hT => decide +kernel)) | ((with_reducible apply wps_loada (T := 23) (k := 3) S 0); (case hx | hi => rfl); (case hk => exact Nat.le_of_ble_eq_true rfl); (case hT => decide +kernel))
              exact ⟨rfl, S⟩)
            (case hs => exact ⟨_, rfl, by kernel_rfl⟩)
          refine softs_nil ?_
          (with_reducible apply W_done); (case hn => rfl); (case hr => decide +kernel)
          intro wz S
          simp only [List.append_nil] at S
          go_wp2_with first | go_skip | ((with_reducible refine wpList_skip ?hw ?_); (case hw => with_unfolding_all rfl); simp only [Act.put, List.setIfInBounds_toArray, List.set_cons_succ, List.set_cons_zero]) | ((with_reducible refine tot_done ?ht ?_); (case ht => kernel_rfl)) | ((with_reducible apply wps_text S); (case hm => kernel_rfl); (case hB => decide +kernel); clear S; intro wz S) | ((with_reducible apply wps_alloca (E := 23) S); (case hz => exact Tryz.zeroValue23); clear S; intro bz wz S) | ((with_reducible apply wps_load S 0); (case hx | hi | hu => rfl); (case hT => decide +kernel)) | ((with_reducible apply wps_loada (T := 23) (k := 3) S 0); (case hx | hi => rfl); (case hk => exact Nat.le_of_ble_eq_true rfl); (case hT => decide +kernel))
          go_roundw
          case rel => exact ⟨k + 1, by omega, by go_num, HK2, S⟩
          case measure => first | (simp [intOf]; done) | (simp [intOf]; omega)
      · have hk4e : k = 4 := by omega
        have HK4 := Lib.hid hk4e
        have HK2 : Hid (kindE w0 = k) := Lib.hid (kind_at HK.out (.inl hk4e) (by omega))
        have hk6 : ((k : Int) == 4) = true := by rw [hk4e]; rfl
        have hk7 : decide ((k : Int) < 4) = false := by rw [hk4e]; rfl
        clear HK hk4 hk4e
        go_upto_region 6 with fail
        (refine wp_region_w (soft := [0, 1, 2, 3, 4, 5, 6, 7, 8, 9, 10, 11]) S ?hm ?hB ?_); (case hm => kernel_rfl); (case hB => decide +kernel); clear S
        iterate 12
          (with_reducible apply softs_cons)
          (case hw =>
            (with_reducible apply soft_of); (case hi => rfl)
            intro T wz S
            simp only [List.cons_append, List.nil_append] at S
            go_wp2_with first | go_skip | ((with_reducible refine tot_done ?ht ?_); (case ht => kernel_rfl)) | ((with_reducible apply wps_alloca (E := 23) S); (case hz => exact Tryz.zeroValue23); clear S; intro bz wz S) | ((with_reducible apply wps_load S 0); (case hx | hi | hu => rfl); (case hT => decide +kernel)) | ((with_reducible apply wps_loada (T := 23) (k := 3) S 0); (case hx | hi => rfl); (case hk => exact Nat.le_of_ble_eq_true rfl); (case hT => decide +kernel))
            exact ⟨rfl, S⟩)
          (case hs => exact ⟨_, rfl, by kernel_rfl⟩)
        refine softs_nil ?_
        (with_reducible apply W_done); (case hn => rfl); (case hr => decide +kernel)
        intro wz S
        simp only [List.append_nil] at S
        have HQ0 : Hid (lineE (w0 :: f) = lineT k (timesW f) (toldL f)) := Lib.hid (by rw [line_cons, HK2.out])
        go_upto_region 11 with first | go_skip | ((with_reducible refine wpList_skip ?hw ?_); (case hw => with_unfolding_all rfl); simp only [Act.put, List.setIfInBounds_toArray, List.set_cons_succ, List.set_cons_zero]) | ((with_reducible apply wps_slice (E := 9) S 0 (l := 1) (u := wn)); (case hx | hi => rfl); (case hT => exact Tryz.underlying174); (case hE => intro w; kernel_rfl); (case hlo | hhi => first | exact .inr rfl | exact .inl ⟨rfl, rfl⟩); (case h1 | h2 => first | omega | (simp; omega)); clear S; intro az nz cz hnz S) | ((with_reducible refine tot_done ?ht ?_); (case ht => kernel_rfl)) | ((with_reducible apply wps_text S); (case hm => kernel_rfl); (case hB => decide +kernel); clear S; intro wz S) | ((with_reducible apply wps_alloca (E := 23) S); (case hz => exact Tryz.zeroValue23); clear S; intro bz wz S) | ((with_reducible apply wps_load S 0); (case hx | hi | hu => rfl); (case hT => decide +kernel)) | ((with_reducible apply wps_loada (T := 23) (k := 3) S 0); (case hx | hi => rfl); (case hk => exact Nat.le_of_ble_eq_true rfl); (case hT => decide +kernel)) | ((with_reducible apply wps_load S 1); (case hx | hi | hu => rfl); (case hT => decide +kernel)) | ((with_reducible apply wps_loada (T := 23) (k := 3) S 1); (case hx | hi => rfl); (case hk => exact Nat.le_of_ble_eq_true rfl); (case hT => decide +kernel))
        obtain rfl : nz = f.length := by rw [hnz.out]; omega
        rw [HTK.out] at S
        clear HK2
        by_cases hf0 : f = []
        · have HQ : Hid (∀ T, T = [] → lineE (w0 :: f) = lineT k [49] T) := Lib.hid (by intro T hT; rw [HQ0.out, hf0, hT]; rfl)
          rw [hf0, List.length_nil] at S
          have hfl0 : f.length = 0 := by rw [hf0]; rfl
          rw [hfl0]
          clear HQ0 hf0 hfl0
          go_upto_region 13 with first | go_skip | ((with_reducible refine wpList_skip ?hw ?_); (case hw => with_unfolding_all rfl); simp only [Act.put, List.setIfInBounds_toArray, List.set_cons_succ, List.set_cons_zero]) | ((with_reducible refine tot_done ?ht ?_); (case ht => kernel_rfl)) | ((with_reducible apply wps_text S); (case hm => kernel_rfl); (case hB => decide +kernel); clear S; intro wz S) | ((with_reducible apply wps_alloca (E := 23) S); (case hz => exact Tryz.zeroValue23); clear S; intro bz wz S) | ((with_reducible apply wps_load S 0); (case hx | hi | hu => rfl); (case hT => decide +kernel)) | ((with_reducible apply wps_loada (T := 23) (k := 3) S 0); (case hx | hi => rfl); (case hk => exact Nat.le_of_ble_eq_true rfl); (case hT => decide +kernel)) | ((with_reducible apply wps_load S 1); (case hx | hi | hu => rfl); (case hT => decide +kernel)) | ((with_reducible apply wps_loada (T := 23) (k := 3) S 1); (case hx | hi => rfl); (case hk => exact Nat.le_of_ble_eq_true rfl); (case hT => decide +kernel))
          obtain ⟨T, hT⟩ : ∃ T : List (List UInt8), T = [] := ⟨_, rfl⟩
          replace HQ := Lib.hid (HQ.out T hT)
          have HT : Hid (T.length = 0) := Lib.hid (by rw [hT]; rfl)
          have HSZ2 : Hid (∀ x ∈ [[49]] ++ T, x.length ≤ 4294967295) := Lib.hid (by rw [hT]; intro x hx; simp at hx; subst hx; simp)
          rw [← hT] at S
          clear hT
          replace S := S.pick [0, 2, 3, 4] rfl
          simp only [pick, nth] at S
          have HR : Hid (lineE (w0 :: f) = (⟨0, 0, 0⟩, 0, 15)) := Lib.hid (by rw [HQ.out]; unfold lineT; rw [if_pos (.inl HK4.out)])
          go_wp2_with first | go_skip | ((with_reducible refine wpList_skip ?hw ?_); (case hw => with_unfolding_all rfl); simp only [Act.put, List.setIfInBounds_toArray, List.set_cons_succ, List.set_cons_zero]) | ((with_reducible apply wps_storea (T := 23) S 1 (vs := [.int .i64 0, .int .i64 0, .int .i64 0]) (m := 3)); (case hx | hy | hi | hm | h1 => rfl); (case hn => exact Nat.le_of_ble_eq_true rfl); (case hT => decide +kernel); clear S; intro wz S; simp only [List.set_cons_zero, List.set_cons_succ, setAll, List.setIfInBounds_toArray] at S) | ((with_reducible refine tot_done ?ht ?_); (case ht => kernel_rfl)) | ((with_reducible apply wps_text S); (case hm => kernel_rfl); (case hB => decide +kernel); clear S; intro wz S) | ((with_reducible apply wps_alloca (E := 23) S); (case hz => exact Tryz.zeroValue23); clear S; intro bz wz S) | ((with_reducible apply wps_load S 0); (case hx | hi | hu => rfl); (case hT => decide +kernel)) | ((with_reducible apply wps_loada (T := 23) (k := 3) S 0); (case hx | hi => rfl); (case hk => exact Nat.le_of_ble_eq_true rfl); (case hT => decide +kernel)) | ((with_reducible apply wps_load S 1); (case hx | hi | hu => rfl); (case hT => decide +kernel)) | ((with_reducible apply wps_loada (T := 23) (k := 3) S 1); (case hx | hi => rfl); (case hk => exact Nat.le_of_ble_eq_true rfl); (case hT => decide +kernel))
          (try simp only [Exit.inBlock, Exit.then]); refine bodyPost_ret (results3 rfl (S.resA 1 rfl rfl (by kernel_rfl)) (res_tmp rfl) (res_tmp rfl)) rfl ?_
          rw [HR.out]
          exact ⟨rfl, S.below⟩
        · obtain ⟨t, ht⟩ : ∃ t, f.getLast? = some t := ⟨_, List.getLast?_eq_some_getLast hf0⟩
          obtain ⟨m, hm⟩ : ∃ m, f.length = m + 1 := ⟨f.length - 1, by have := List.length_pos_iff.2 hf0; omega⟩
          have hmt : f[m]? = some t := by rw [← ht, List.getLast?_eq_getElem?, hm]; rfl
          have HMT := Lib.hid hmt
          have hmem : t ∈ w0 :: f := List.mem_cons_of_mem _ (List.mem_of_getElem? hmt)
          have htl : 1 ≤ t.length := List.length_pos_iff.2 (HWN.out t hmem)
          have HHP := Lib.hid (fun w => hp_calls t w)
          obtain ⟨Rf, of_, rfl⟩ : ∃ R o, az = some ⟨R, o, none⟩ := (S.sl 0 rfl).elim fun F h => h.head (by omega)
          have hmf : m ≤ 65536 := by omega
          have hmf2 : m ≤ f.length := by omega
          by_cases hx : t.head? = some 120
          · obtain ⟨q1, q2⟩ := x_yes ht hx
            have HQ : Hid (∀ T, T = f.dropLast → lineE (w0 :: f) = lineT k t.tail T) := Lib.hid (by intro T hT; rw [HQ0.out, hT, q1, q2])
            have HDL : Hid ((f.take m).drop 0 = f.dropLast) := Lib.hid (by rw [List.drop_zero, List.dropLast_eq_take, hm]; rfl)
            rw [decide_eq_true hx] at HHP
            have HSZ0 : Hid (∀ x ∈ [t.tail] ++ f.dropLast, x.length ≤ 4294967295) := Lib.hid (fun x hxm => by
              rcases List.mem_append.1 hxm with h | h
              · have := HWS.out t hmem; simp at h; subst h; rw [List.length_tail]; omega
              · have := HWS.out x (List.mem_cons_of_mem _ (List.dropLast_subset _ h)); omega)
            have HDN : Hid (f.dropLast.length = m) := Lib.hid (by rw [List.length_dropLast, hm]; rfl)
            rw [hm] at S ⊢
            have HTW : Hid (t.drop 1 = t.tail) := Lib.hid List.drop_one
            clear hx q1 q2 HQ0 hm hmt hmem hf0 ht
            generalize t.tail = W at *
            go_upto_region 12 with first | go_skip | ((with_reducible refine wpList_skip ?hw ?_); (case hw => with_unfolding_all rfl); simp only [Act.put, List.setIfInBounds_toArray, List.set_cons_succ, List.set_cons_zero]) | ((with_reducible apply wps_load_el S 0 (hj := HMT.out) (q := 0) (u := strV t)); (case hx | hi => rfl); (case hn => omega); (case hu => rfl); (case hT => decide +kernel)) | (go_at_call 119; refine Calls.mono (HHP.out _) ?_; rintro e wz ⟨rfl, hE⟩; replace S := S.ext (Keep.of_below hE); clear hE) | ((with_reducible refine tot_done ?ht ?_); (case ht => kernel_rfl)) | ((with_reducible apply wps_text S); (case hm => kernel_rfl); (case hB => decide +kernel); clear S; intro wz S) | ((with_reducible apply wps_alloca (E := 23) S); (case hz => exact Tryz.zeroValue23); clear S; intro bz wz S) | ((with_reducible apply wps_load S 0); (case hx | hi | hu => rfl); (case hT => decide +kernel)) | ((with_reducible apply wps_loada (T := 23) (k := 3) S 0); (case hx | hi => rfl); (case hk => exact Nat.le_of_ble_eq_true rfl); (case hT => decide +kernel)) | ((with_reducible apply wps_load S 1); (case hx | hi | hu => rfl); (case hT => decide +kernel)) | ((with_reducible apply wps_loada (T := 23) (k := 3) S 1); (case hx | hi => rfl); (case hk => exact Nat.le_of_ble_eq_true rfl); (case hT => decide +kernel))
            (refine wp_region_w (soft := [0, 1, 2, 3, 4, 5, 6, 7, 8, 10]) S ?hm ?hB ?_); (case hm => kernel_rfl); (case hB => decide +kernel); clear S
            iterate 10
              (with_reducible apply softs_cons)
              (case hw =>
                (with_reducible apply soft_of); (case hi => rfl)
                intro T wz S
                simp only [List.cons_append, List.nil_append] at S
                go_wp2_with first | go_skip | ((with_reducible apply wps_load_el S 0 (hj := HMT.out) (q := 0) (u := strV t)); (case hx | hi => rfl); (case hn => omega); (case hu => rfl); (case hT => decide +kernel)) | ((with_reducible apply wps_sfrom (i := 1)); (case hx | hlo => rfl); (case hT => exact Tryz.underlying9); (case h1 => omega); (case hm => exact HTW.out)) | ((with_reducible apply wps_slice (E := 9) S 0 (l := 0) (u := m)); (case hx | hi => rfl); (case hT => exact Tryz.underlying174); (case hE => intro w; kernel_rfl); (case hlo | hhi => first | exact .inr rfl | exact .inl ⟨rfl, rfl⟩); (case h1 | h2 => first | omega | (simp; omega)); clear S; intro az nz cz hnz S) | ((with_reducible refine tot_done ?ht ?_); (case ht => kernel_rfl)) | ((with_reducible apply wps_alloca (E := 23) S); (case hz => exact Tryz.zeroValue23); clear S; intro bz wz S) | ((with_reducible apply wps_load S 0); (case hx | hi | hu => rfl); (case hT => decide +kernel)) | ((with_reducible apply wps_loada (T := 23) (k := 3) S 0); (case hx | hi => rfl); (case hk => exact Nat.le_of_ble_eq_true rfl); (case hT => decide +kernel))
                exact ⟨rfl, S⟩)
              (case hs => exact ⟨_, rfl, by kernel_rfl⟩)
            refine softs_nil ?_
            (with_reducible apply W_hard1 (i := 9)); (case hn => rfl); (case hr => decide +kernel)
            intro wz S
            (with_reducible apply hard_of); (case hi => rfl)
            simp only [List.cons_append, List.nil_append] at S
            go_wp2_with first | go_skip | ((with_reducible apply wps_load_el S 0 (hj := HMT.out) (q := 0) (u := strV t)); (case hx | hi => rfl); (case hn => omega); (case hu => rfl); (case hT => decide +kernel)) | ((with_reducible apply wps_sfrom (i := 1)); (case hx | hlo => rfl); (case hT => exact Tryz.underlying9); (case h1 => omega); (case hm => exact HTW.out)) | ((with_reducible apply wps_slice (E := 9) S 0 (l := 0) (u := m)); (case hx | hi => rfl); (case hT => exact Tryz.underlying174); (case hE => intro w; kernel_rfl); (case hlo | hhi => first | exact .inr rfl | exact .inl ⟨rfl, rfl⟩); (case h1 | h2 => first | omega | (simp; omega)); clear S; intro az nz cz hnz S) | ((with_reducible refine tot_done ?ht ?_); (case ht => kernel_rfl)) | ((with_reducible apply wps_alloca (E := 23) S); (case hz => exact Tryz.zeroValue23); clear S; intro bz wz S) | ((with_reducible apply wps_load S 0); (case hx | hi | hu => rfl); (case hT => decide +kernel)) | ((with_reducible apply wps_loada (T := 23) (k := 3) S 0); (case hx | hi => rfl); (case hk => exact Nat.le_of_ble_eq_true rfl); (case hT => decide +kernel))
            refine ⟨_, S.pick [1, 2, 3, 4, 5, 0] rfl, ?_⟩
            clear S
            (refine W_mid (f := 0) (soft := [11]) rfl ?hB ?_); (case hB => decide +kernel)
            iterate 1
              (with_reducible apply softs_cons)
              (case hw =>
                (with_reducible apply soft_of); (case hi => rfl)
                intro T wz S
                simp only [List.cons_append, List.nil_append] at S
                go_wp2_with first | go_skip | ((with_reducible apply wps_load_el S 0 (hj := HMT.out) (q := 0) (u := strV t)); (case hx | hi => rfl); (case hn => omega); (case hu => rfl); (case hT => decide +kernel)) | ((with_reducible apply wps_sfrom (i := 1)); (case hx | hlo => rfl); (case hT => exact Tryz.underlying9); (case h1 => omega); (case hm => exact HTW.out)) | ((with_reducible apply wps_slice (E := 9) S 0 (l := 0) (u := m)); (case hx | hi => rfl); (case hT => exact Tryz.underlying174); (case hE => intro w; kernel_rfl); (case hlo | hhi => first | exact .inr rfl | exact .inl ⟨rfl, rfl⟩); (case h1 | h2 => first | omega | (simp; omega)); clear S; intro az nz cz hnz S) | ((with_reducible refine tot_done ?ht ?_); (case ht => kernel_rfl)) | ((with_reducible apply wps_alloca (E := 23) S); (case hz => exact Tryz.zeroValue23); clear S; intro bz wz S) | ((with_reducible apply wps_load S 0); (case hx | hi | hu => rfl); (case hT => decide +kernel)) | ((with_reducible apply wps_loada (T := 23) (k := 3) S 0); (case hx | hi => rfl); (case hk => exact Nat.le_of_ble_eq_true rfl); (case hT => decide +kernel))
                exact ⟨rfl, S⟩)
              (case hs => exact ⟨_, rfl, by kernel_rfl⟩)
            refine softs_nil ?_
            (with_reducible apply W_done); (case hn => rfl); (case hr => decide +kernel)
            intro wz S
            repeat (first | simp only at S | simp only [pick] at S | simp only [nth] at S | simp only [List.set_cons_succ] at S | simp only [List.set_cons_zero] at S | simp only [List.setIfInBounds_toArray] at S | simp only [setAll] at S | simp only [List.cons_append] at S | simp only [List.nil_append] at S | simp only [List.append_nil] at S)
            obtain rfl : nz = m := by rw [hnz.out]; omega
            rw [HDL.out] at S
            go_upto_region 13 with first | go_skip | ((with_reducible refine wpList_skip ?hw ?_); (case hw => with_unfolding_all rfl); simp only [Act.put, List.setIfInBounds_toArray, List.set_cons_succ, List.set_cons_zero]) | ((with_reducible refine tot_done ?ht ?_); (case ht => kernel_rfl)) | ((with_reducible apply wps_text S); (case hm => kernel_rfl); (case hB => decide +kernel); clear S; intro wz S) | ((with_reducible apply wps_alloca (E := 23) S); (case hz => exact Tryz.zeroValue23); clear S; intro bz wz S) | ((with_reducible apply wps_load S 0); (case hx | hi | hu => rfl); (case hT => decide +kernel)) | ((with_reducible apply wps_loada (T := 23) (k := 3) S 0); (case hx | hi => rfl); (case hk => exact Nat.le_of_ble_eq_true rfl); (case hT => decide +kernel)) | ((with_reducible apply wps_load S 1); (case hx | hi | hu => rfl); (case hT => decide +kernel)) | ((with_reducible apply wps_loada (T := 23) (k := 3) S 1); (case hx | hi => rfl); (case hk => exact Nat.le_of_ble_eq_true rfl); (case hT => decide +kernel))
            obtain ⟨T, hT⟩ : ∃ T : List (List UInt8), T = f.dropLast := ⟨_, rfl⟩
            replace HQ := Lib.hid (HQ.out T hT)
            have HT : Hid (T.length = nz) := Lib.hid (by rw [hT]; exact HDN.out)
            have HSZ2 : Hid (∀ x ∈ [W] ++ T, x.length ≤ 4294967295) := Lib.hid (by rw [hT]; exact HSZ0.out)
            rw [← hT] at S
            clear hT HSZ0 HDN HDL HMT
            replace S := S.pick [5, 2, 3, 4] rfl
            simp only [pick, nth] at S
            generalize nz = tn at *
            replace S := S.pick [0, 1, 2, 3] rfl
            simp only [pick, nth] at S
            have HR : Hid (lineE (w0 :: f) = (⟨0, 0, 0⟩, 0, 15)) := Lib.hid (by rw [HQ.out]; unfold lineT; rw [if_pos (.inl HK4.out)])
            go_wp2_with first | go_skip | ((with_reducible refine wpList_skip ?hw ?_); (case hw => with_unfolding_all rfl); simp only [Act.put, List.setIfInBounds_toArray, List.set_cons_succ, List.set_cons_zero]) | ((with_reducible apply wps_storea (T := 23) S 1 (vs := [.int .i64 0, .int .i64 0, .int .i64 0]) (m := 3)); (case hx | hy | hi | hm | h1 => rfl); (case hn => exact Nat.le_of_ble_eq_true rfl); (case hT => decide +kernel); clear S; intro wz S; simp only [List.set_cons_zero, List.set_cons_succ, setAll, List.setIfInBounds_toArray] at S) | ((with_reducible refine tot_done ?ht ?_); (case ht => kernel_rfl)) | ((with_reducible apply wps_text S); (case hm => kernel_rfl); (case hB => decide +kernel); clear S; intro wz S) | ((with_reducible apply wps_alloca (E := 23) S); (case hz => exact Tryz.zeroValue23); clear S; intro bz wz S) | ((with_reducible apply wps_load S 0); (case hx | hi | hu => rfl); (case hT => decide +kernel)) | ((with_reducible apply wps_loada (T := 23) (k := 3) S 0); (case hx | hi => rfl); (case hk => exact Nat.le_of_ble_eq_true rfl); (case hT => decide +kernel)) | ((with_reducible apply wps_load S 1); (case hx | hi | hu => rfl); (case hT => decide +kernel)) | ((with_reducible apply wps_loada (T := 23) (k := 3) S 1); (case hx | hi => rfl); (case hk => exact Nat.le_of_ble_eq_true rfl); (case hT => decide +kernel))
            (try simp only [Exit.inBlock, Exit.then]); refine bodyPost_ret (results3 rfl (S.resA 1 rfl rfl (by kernel_rfl)) (res_tmp rfl) (res_tmp rfl)) rfl ?_
            rw [HR.out]
            exact ⟨rfl, S.below⟩
          · obtain ⟨q1, q2⟩ := x_no ht hx
            have HQ : Hid (lineE (w0 :: f) = lineT k [49] f) := Lib.hid (by rw [HQ0.out, q1, q2])
            rw [decide_eq_false hx] at HHP
            have HSZ2 : Hid (∀ x ∈ [[49]] ++ f, x.length ≤ 4294967295) := Lib.hid (fun x hxm => by
              rcases List.mem_append.1 hxm with h | h
              · simp at h; subst h; simp
              · have := HWS.out x (List.mem_cons_of_mem _ h); omega)
            have HT : Hid (f.length = m + 1) := Lib.hid hm
            rw [hm] at S ⊢
            clear hx q1 q2 HQ0 hm hmt hmem hf0 ht
            go_upto_region 13 with first | go_skip | ((with_reducible refine wpList_skip ?hw ?_); (case hw => with_unfolding_all rfl); simp only [Act.put, List.setIfInBounds_toArray, List.set_cons_succ, List.set_cons_zero]) | ((with_reducible apply wps_load_el S 0 (hj := HMT.out) (q := 0) (u := strV t)); (case hx | hi => rfl); (case hn => omega); (case hu => rfl); (case hT => decide +kernel)) | (go_at_call 119; refine Calls.mono (HHP.out _) ?_; rintro e wz ⟨rfl, hE⟩; replace S := S.ext (Keep.of_below hE); clear hE) | ((with_reducible refine tot_done ?ht ?_); (case ht => kernel_rfl)) | ((with_reducible apply wps_text S); (case hm => kernel_rfl); (case hB => decide +kernel); clear S; intro wz S) | ((with_reducible apply wps_alloca (E := 23) S); (case hz => exact Tryz.zeroValue23); clear S; intro bz wz S) | ((with_reducible apply wps_load S 0); (case hx | hi | hu => rfl); (case hT => decide +kernel)) | ((with_reducible apply wps_loada (T := 23) (k := 3) S 0); (case hx | hi => rfl); (case hk => exact Nat.le_of_ble_eq_true rfl); (case hT => decide +kernel)) | ((with_reducible apply wps_load S 1); (case hx | hi | hu => rfl); (case hT => decide +kernel)) | ((with_reducible apply wps_loada (T := 23) (k := 3) S 1); (case hx | hi => rfl); (case hk => exact Nat.le_of_ble_eq_true rfl); (case hT => decide +kernel))
            obtain ⟨T, hT⟩ : ∃ T : List (List UInt8), T = f := ⟨_, rfl⟩
            have HT2 := HT.out
            rw [← hT] at S HT2
            replace HQ : Hid (lineE (w0 :: f) = lineT k [49] T) := by rw [hT]; exact HQ
            replace HSZ2 : Hid (∀ x ∈ [[49]] ++ T, x.length ≤ 4294967295) := by rw [hT]; exact HSZ2
            replace HT := Lib.hid HT2
            clear hT HT2
            generalize m + 1 = tn at *
            replace S := S.pick [0, 2, 3, 4] rfl
            simp only [pick, nth] at S
            have HR : Hid (lineE (w0 :: f) = (⟨0, 0, 0⟩, 0, 15)) := Lib.hid (by rw [HQ.out]; unfold lineT; rw [if_pos (.inl HK4.out)])
            go_wp2_with first | go_skip | ((with_reducible refine wpList_skip ?hw ?_); (case hw => with_unfolding_all rfl); simp only [Act.put, List.setIfInBounds_toArray, List.set_cons_succ, List.set_cons_zero]) | ((with_reducible apply wps_storea (T := 23) S 1 (vs := [.int .i64 0, .int .i64 0, .int .i64 0]) (m := 3)); (case hx | hy | hi | hm | h1 => rfl); (case hn => exact Nat.le_of_ble_eq_true rfl); (case hT => decide +kernel); clear S; intro wz S; simp only [List.set_cons_zero, List.set_cons_succ, setAll, List.setIfInBounds_toArray] at S) | ((with_reducible refine tot_done ?ht ?_); (case ht => kernel_rfl)) | ((with_reducible apply wps_text S); (case hm => kernel_rfl); (case hB => decide +kernel); clear S; intro wz S) | ((with_reducible apply wps_alloca (E := 23) S); (case hz => exact Tryz.zeroValue23); clear S; intro bz wz S) | ((with_reducible apply wps_load S 0); (case hx | hi | hu => rfl); (case hT => decide +kernel)) | ((with_reducible apply wps_loada (T := 23) (k := 3) S 0); (case hx | hi => rfl); (case hk => exact Nat.le_of_ble_eq_true rfl); (case hT => decide +kernel)) | ((with_reducible apply wps_load S 1); (case hx | hi | hu => rfl); (case hT => decide +kernel)) | ((with_reducible apply wps_loada (T := 23) (k := 3) S 1); (case hx | hi => rfl); (case hk => exact Nat.le_of_ble_eq_true rfl); (case hT => decide +kernel))
            (try simp only [Exit.inBlock, Exit.then]); refine bodyPost_ret (results3 rfl (S.resA 1 rfl rfl (by kernel_rfl)) (res_tmp rfl) (res_tmp rfl)) rfl ?_
            rw [HR.out]
            exact ⟨rfl, S.below⟩
end Go.Proofs.YtmjljoaakdocaaaGreatDoor

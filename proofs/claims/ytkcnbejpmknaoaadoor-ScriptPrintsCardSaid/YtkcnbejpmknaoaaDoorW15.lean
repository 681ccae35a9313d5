import Derived.Test.YtkcnbejpmknaoaaDoorW14
/- The walk of the script's Print (chapter 21). -/
namespace Go.Proofs.YtkcnbejpmknaoaaDoor
open Go Go.RowKit Reg Mem

theorem do_ceqs (x y : DoE) : ceqs (docell x) (docell y) = decide (x = y) := by
  obtain ⟨a, b, c⟩ := x; obtain ⟨a', b', c'⟩ := y
  simp only [docell, ceqs, ceq, Bool.and_true, DoE.mk.injEq]
  rw [Bool.eq_iff_iff]; simp
theorem write_nl {G : Nat → Prop} {w0 w : World} {L : List Asn} (b : Nat) (pv v : Value) (l : List UInt8) (hp : pv = .pointer none ∨ pv = .pointer (some ⟨b, 0, none⟩)) (hn : l.length + 1 ≤ 4294967296)
    (S : St G w0 w (Blk false b #[pv, v] 52 :: Own 5 bcell 1 v l :: L)) :
    Calls Tryd.prog 19 #[.pointer (some ⟨b, 0, none⟩), .string { data := #[10] }] w fun e w' => ∃ r v', e = .returned r ∧ St G w0 w' (Blk false b #[.pointer (some ⟨b, 0, none⟩), v'] 52 :: Own 5 bcell 1 v' (l ++ [10]) :: L) :=
  write_calls b pv v l [10] hp hn S
theorem rows_len : ∀ (m : Nat) (l : List DoE), l.length ≤ m → l.length ≤ 4096 → (∀ x ∈ l, mayE x = true) → (rowsGo 0 l).length ≤ 24 * l.length := by
  intro m
  induction m with
  | zero => intro l h _ _; obtain rfl : l = [] := List.eq_nil_of_length_eq_zero (by omega); simp [rowsGo]
  | succ m ih =>
    intro l h hl hm
    cases l with
    | nil => simp [rowsGo]
    | cons d r =>
      have hk := run_le d 4094 r
      simp only [List.length_cons] at h hl
      rw [rows_cons, List.length_append]
      have h1 := row_len (d := d) (n := 1 + runD d 4094 r) (hm d List.mem_cons_self) (by omega)
      have h2 := ih (r.drop (runD d 4094 r)) (by simp; omega) (by simp; omega) (fun x hx => hm x (List.mem_cons_of_mem _ (List.mem_of_mem_drop hx)))
      rw [List.length_drop] at h2
      simp only [List.length_cons]
      omega
def KpRel (w : World) (l : List DoE) (v : Value) (i : Value) (L : List Asn) (wr : World) : Prop :=
  ∃ k : Nat, k ≤ l.length ∧ i = .int .i64 k ∧ Hid (∀ j x, j < k → l[j]? = some x → mayE x = true) ∧ St (fun _ => False) w wr (Sl true docell 3 v l :: L)
def KpRel2 (w : World) (b : Nat) (q : List UInt8) (lv : Value) (L : List Asn) (wr : World) : Prop :=
  ∃ (r : List DoE) (T : List UInt8) (pv v : Value), r.length ≤ 4096 ∧ Hid (q = T ++ rowsGo 0 r) ∧ Hid (∀ x ∈ r, mayE x = true) ∧ Hid (pv = .pointer none ∨ pv = .pointer (some ⟨b, 0, none⟩)) ∧ Hid (T = [] → v = .slice none 0 0) ∧
    St (fun _ => False) w wr (Blk false b #[pv, v] 52 :: Own 5 bcell 1 v T :: Sl true docell 3 lv r :: L)
def KpRel3 (w : World) (b : Nat) (pv v : Value) (T : List UInt8) (d : DoE) (r : List DoE) (lv n : Value) (L : List Asn) (wr : World) : Prop :=
  ∃ m : Nat, 1 ≤ m ∧ m ≤ r.length + 1 ∧ m ≤ 4095 ∧ n = .int .i64 m ∧ Hid (∀ j e, j + 1 < m → r[j]? = some e → sameD e d = true) ∧
    St (fun _ => False) w wr (Blk false b #[pv, v] 52 :: Own 5 bcell 1 v T :: Sl true docell 3 lv (d :: r) :: L)
theorem runs_to {d : DoE} {r : List DoE} {m : Nat} (h1 : 1 ≤ m) (h2 : m ≤ r.length + 1) (h3 : m ≤ 4095) (h : ∀ j e, j + 1 < m → r[j]? = some e → sameD e d = true) (hs : m = 4095 ∨ m = r.length + 1 ∨ ∃ e, r[m - 1]? = some e ∧ sameD e d = false) : runD d 4094 r = m - 1 :=
  run_at d 4094 r (m - 1) (by omega) (by omega) (fun j e hj he => h j e (by omega) he) (by
    rcases hs with h | h | h
    · exact .inl (by omega)
    · exact .inr (.inl (by omega))
    · exact .inr (.inr h))
set_option maxRecDepth 100000 in
set_option maxHeartbeats 16000000 in
theorem sprint_calls (tE : TypeId) (pE : Value) (lv : Value) (l : List DoE) (w : World) (F F2 F3 : Nat → Prop) (h : (LibA tE pE).at_ w F) (h2 : FormsT.at_ w F2) (h3 : (Sl true docell 3 lv l).at_ w F3) (hn : l.length ≤ 65536) :
    Calls Tryd.prog 11 #[lv] w fun e w' => e = .returned (.tuple #[strV (printE l).1, .int .i64 (printE l).2]) ∧ Below w.heap.size w w' := by
  have S : St (fun _ => False) w w [Sl true docell 3 lv l, LibA tE pE, FormsT] := (((St.init _ w).share (A := FormsT) rfl rfl h2).share (A := LibA tE pE) rfl rfl h).share (A := Sl true docell 3 lv l) rfl rfl h3
  clear h h2 h3
  obtain ⟨ad, cp, rfl, _⟩ := (S.sl 0 rfl).elim fun _ h => h.form
  have HP : Hid (printE l = if l.all mayE = true then (if l.length ≤ 4096 then (rowsGo 0 l, 0) else ([], 11)) else ([], 10)) := Lib.hid rfl
  generalize printE l = q at *
  go_enter Tryd.func11, Tryd.ntmps11
  go_upto_region 2 with first | go_skip | ((with_reducible refine wpList_skip ?hw ?_); (case hw => with_unfolding_all rfl); simp only [Act.put, List.setIfInBounds_toArray, List.set_cons_succ, List.set_cons_zero]) | ((with_reducible refine tot_done ?ht ?_); (case ht => kernel_rfl)) | ((with_reducible apply wps_text S); (case hm => kernel_rfl); (case hB => decide +kernel); clear S; intro wz S) | ((with_reducible apply wps_alloca (E := 42) S); (case hz => exact Tryd.zeroValue42); clear S; intro bz wz S) | ((with_reducible apply wps_alloca (E := 52) S); (case hz => exact Tryd.zeroValue52); clear S; intro bz wz S) | ((with_reducible apply wps_loada (T := 42) (k := 3) S 0); (case hx | hi => rfl); (case hk => exact Nat.le_of_ble_eq_true rfl); (case hT => decide +kernel))
  go_loopw [10] (fun i wr => KpRel w l (.slice ad l.length cp) i [LibA tE pE, FormsT] wr) (fun i _ => l.length - (intOf i).toNat)
  case atStart => exact ⟨0, Nat.zero_le _, rfl, fun j x hj => by omega, S⟩
  case round =>
    clear S
    obtain ⟨k, hk, rfl, HM, S⟩ := hrel
    by_cases hlt : k < l.length
    · have hlt2 : (k : Int) < l.length := by omega
      obtain ⟨x, hx⟩ : ∃ x, l[k]? = some x := ⟨_, List.getElem?_eq_getElem hlt⟩
      obtain ⟨R, o, rfl⟩ : ∃ R o, ad = some ⟨R, o, none⟩ := (S.sl 0 rfl).elim fun F h => h.head (by omega)
      have HX := Lib.hid hx
      have HC := Lib.hid (fun w F h => smay_calls x w F h)
      cases hm : mayE x with
      | false =>
        rw [hm] at HC
        have HR : Hid (q = ([], 10)) := Lib.hid (by rw [HP.out, if_neg]; intro e; rw [List.all_eq_true.1 e x (List.mem_of_getElem? hx)] at hm; cases hm)
        clear hm hx HM HP
        as_aux_lemma =>
          go_wp2_with first | go_skip | ((with_reducible refine wpList_skip ?hw ?_); (case hw => with_unfolding_all rfl); simp only [Act.put, List.setIfInBounds_toArray, List.set_cons_succ, List.set_cons_zero]) | ((with_reducible apply wps_loada_el S 0 (hj := HX.out) (q := 0) (vs := [.int .i64 x.what, .int .i64 x.a, .int .i64 x.b]) (m := 3)); (case hx | hi => rfl); (case hn => omega); (case hm | hv => rfl); (case hT => decide +kernel)) | ((with_reducible apply wps_storea (T := 42) S 0 (vs := [.int .i64 x.what, .int .i64 x.a, .int .i64 x.b]) (m := 3)); (case hx | hy | hi | hm | h1 => rfl); (case hn => exact Nat.le_of_ble_eq_true rfl); (case hT => decide +kernel); clear S; intro wz S; simp only [List.set_cons_zero, List.set_cons_succ, setAll, List.setIfInBounds_toArray] at S) | ((with_reducible apply wps_loada (T := 42) (k := 3) S 0); (case hx | hi => rfl); (case hk => exact Nat.le_of_ble_eq_true rfl); (case hT => decide +kernel)) | (go_at_call 17; refine Calls.mono (HC.out _ _ (S.get (i := 3) rfl).choose_spec) ?_; rintro e wz ⟨rfl, hE⟩; replace S := S.ext (Keep.of_below hE); clear hE) | ((with_reducible refine tot_done ?ht ?_); (case ht => kernel_rfl)) | ((with_reducible apply wps_text S); (case hm => kernel_rfl); (case hB => decide +kernel); clear S; intro wz S) | ((with_reducible apply wps_alloca (E := 42) S); (case hz => exact Tryd.zeroValue42); clear S; intro bz wz S) | ((with_reducible apply wps_alloca (E := 52) S); (case hz => exact Tryd.zeroValue52); clear S; intro bz wz S) | ((with_reducible apply wps_loada (T := 42) (k := 3) S 0); (case hx | hi => rfl); (case hk => exact Nat.le_of_ble_eq_true rfl); (case hT => decide +kernel))
          (try simp only [Exit.inBlock, Exit.then]); refine bodyPost_ret (results2 rfl (res_tmp rfl) (res_tmp rfl)) rfl ?_
          rw [HR.out]
          exact ⟨rfl, S.below⟩
      | true =>
        rw [hm] at HC
        have HM2 : Hid (∀ j y, j < k + 1 → l[j]? = some y → mayE y = true) := Lib.hid fun j y hj hy => by
          rcases Nat.lt_or_ge j k with h | h
          · exact HM.out j y h hy
          · obtain rfl : j = k := by omega
            rw [hx] at hy; cases hy; exact hm
        clear hm hx HM
        as_aux_lemma =>
          go_wp2_with first | go_skip | ((with_reducible refine wpList_skip ?hw ?_); (case hw => with_unfolding_all rfl); simp only [Act.put, List.setIfInBounds_toArray, List.set_cons_succ, List.set_cons_zero]) | ((with_reducible apply wps_loada_el S 0 (hj := HX.out) (q := 0) (vs := [.int .i64 x.what, .int .i64 x.a, .int .i64 x.b]) (m := 3)); (case hx | hi => rfl); (case hn => omega); (case hm | hv => rfl); (case hT => decide +kernel)) | ((with_reducible apply wps_storea (T := 42) S 0 (vs := [.int .i64 x.what, .int .i64 x.a, .int .i64 x.b]) (m := 3)); (case hx | hy | hi | hm | h1 => rfl); (case hn => exact Nat.le_of_ble_eq_true rfl); (case hT => decide +kernel); clear S; intro wz S; simp only [List.set_cons_zero, List.set_cons_succ, setAll, List.setIfInBounds_toArray] at S) | ((with_reducible apply wps_loada (T := 42) (k := 3) S 0); (case hx | hi => rfl); (case hk => exact Nat.le_of_ble_eq_true rfl); (case hT => decide +kernel)) | (go_at_call 17; refine Calls.mono (HC.out _ _ (S.get (i := 3) rfl).choose_spec) ?_; rintro e wz ⟨rfl, hE⟩; replace S := S.ext (Keep.of_below hE); clear hE) | ((with_reducible refine tot_done ?ht ?_); (case ht => kernel_rfl)) | ((with_reducible apply wps_text S); (case hm => kernel_rfl); (case hB => decide +kernel); clear S; intro wz S) | ((with_reducible apply wps_alloca (E := 42) S); (case hz => exact Tryd.zeroValue42); clear S; intro bz wz S) | ((with_reducible apply wps_alloca (E := 52) S); (case hz => exact Tryd.zeroValue52); clear S; intro bz wz S) | ((with_reducible apply wps_loada (T := 42) (k := 3) S 0); (case hx | hi => rfl); (case hk => exact Nat.le_of_ble_eq_true rfl); (case hT => decide +kernel))
          go_roundw
          case rel => exact ⟨k + 1, by omega, by go_num, HM2, S.pick [1, 2, 3] rfl⟩
          case measure => first | (simp [intOf]; done) | (simp [intOf]; omega)
    · obtain rfl : k = l.length := by omega
      have HA : Hid (∀ x ∈ l, mayE x = true) := Lib.hid fun x hx => by
        obtain ⟨j, hj, e⟩ := List.mem_iff_getElem.1 hx
        exact HM.out j x hj (by rw [List.getElem?_eq_getElem hj, e])
      have HP2 : Hid (q = if l.length ≤ 4096 then (rowsGo 0 l, 0) else ([], 11)) := Lib.hid (by rw [HP.out, if_pos (List.all_eq_true.2 HA.out)])
      clear HP HM
      by_cases hbig : 4096 < l.length
      · have c1 : (4096 : Int) < l.length := by omega
        have HR : Hid (q = ([], 11)) := Lib.hid (by rw [HP2.out, if_neg (by omega)])
        clear HP2 hbig
        as_aux_lemma =>
          go_wp2_with first | go_skip | ((with_reducible refine wpList_skip ?hw ?_); (case hw => with_unfolding_all rfl); simp only [Act.put, List.setIfInBounds_toArray, List.set_cons_succ, List.set_cons_zero]) | ((with_reducible refine tot_done ?ht ?_); (case ht => kernel_rfl)) | ((with_reducible apply wps_text S); (case hm => kernel_rfl); (case hB => decide +kernel); clear S; intro wz S) | ((with_reducible apply wps_alloca (E := 42) S); (case hz => exact Tryd.zeroValue42); clear S; intro bz wz S) | ((with_reducible apply wps_alloca (E := 52) S); (case hz => exact Tryd.zeroValue52); clear S; intro bz wz S) | ((with_reducible apply wps_loada (T := 42) (k := 3) S 0); (case hx | hi => rfl); (case hk => exact Nat.le_of_ble_eq_true rfl); (case hT => decide +kernel))
          (try simp only [Exit.inBlock, Exit.then]); refine bodyPost_ret (results2 rfl (res_tmp rfl) (res_tmp rfl)) rfl ?_
          rw [HR.out]
          exact ⟨rfl, S.below⟩
      · have c1 : ¬ (4096 : Int) < l.length := by omega
        have HR : Hid (q = (rowsGo 0 l, 0)) := Lib.hid (by rw [HP2.out, if_pos (by omega)])
        have hl4 : l.length ≤ 4096 := by omega
        have HL := Lib.hid (rows_len l.length l (Nat.le_refl _) hl4 HA.out)
        have HT0 : Hid (rowsGo 0 l = [] ++ rowsGo 0 l) := Lib.hid rfl
        clear HP2 hbig
        replace S := S.nil 5 bcell 1
        obtain ⟨tx, htx⟩ : ∃ t, rowsGo 0 l = t := ⟨_, rfl⟩
        rw [htx] at HR HL
        have HTX : Hid (tx = [] ++ rowsGo 0 l) := Lib.hid htx.symm
        have htl : tx.length ≤ 98304 := by have := HL.out; omega
        clear htx HT0 HL
        go_upto_region 10 with first | go_skip | ((with_reducible refine wpList_skip ?hw ?_); (case hw => with_unfolding_all rfl); simp only [Act.put, List.setIfInBounds_toArray, List.set_cons_succ, List.set_cons_zero]) | ((with_reducible apply wps_alloca (E := 52) S); (case hz => exact Tryd.zeroValue52); clear S; intro bB wz S) | ((with_reducible refine tot_done ?ht ?_); (case ht => kernel_rfl)) | ((with_reducible apply wps_text S); (case hm => kernel_rfl); (case hB => decide +kernel); clear S; intro wz S) | ((with_reducible apply wps_alloca (E := 42) S); (case hz => exact Tryd.zeroValue42); clear S; intro bz wz S) | ((with_reducible apply wps_alloca (E := 52) S); (case hz => exact Tryd.zeroValue52); clear S; intro bz wz S) | ((with_reducible apply wps_loada (T := 42) (k := 3) S 0); (case hx | hi => rfl); (case hk => exact Nat.le_of_ble_eq_true rfl); (case hT => decide +kernel))
        go_loopw [0] (fun lv wr => KpRel2 w bB tx lv [LibA tE pE, FormsT] wr) (fun lv _ => match lv with | .slice _ n _ => n | _ => 0)
        case atStart => exact ⟨l, [], .pointer none, .slice none 0 0, hl4, HTX, HA, Lib.hid (.inl rfl), Lib.hid (fun _ => rfl), S⟩
        case round =>
          clear S
          obtain ⟨r, T, pv, v, hr4, HQ, HMr, HPV, HV, S⟩ := hrel
          obtain ⟨ar, cr, rfl, _⟩ := (S.sl 2 rfl).elim fun _ h => h.form
          cases r with
          | nil =>
            have HQ2 : Hid (tx = T) := Lib.hid (by have := HQ.out; rw [this]; simp [rowsGo])
            simp only [List.length_nil] at S ⊢
            have HF : Hid (∀ w', St (fun _ => False) w w' (Blk false bB #[pv, v] 52 :: Own 5 bcell 1 v T :: []) → Calls Tryd.prog 22 #[.pointer (some ⟨bB, 0, none⟩)] w' fun e w'' => e = .returned (strV tx) ∧ Below w.heap.size w w'') := Lib.hid (by
              intro w' S'
              rw [HQ2.out]
              by_cases hT : T = []
              · have hv := HV.out hT
                subst hT hv
                exact (bstring_empty bB pv S').mono fun e w'' h => ⟨h.1, h.2.below⟩
              · have hTp : 0 < T.length := List.length_pos_iff.2 hT
                obtain ⟨Rb, cb, rfl⟩ := sown_hd 1 S' rfl hTp
                exact (bstring_calls bB Rb cb pv T (by rw [← HQ2.out]; omega) hT S').mono fun e w'' h => ⟨h.1, h.2.below⟩)
            clear HQ HQ2 HMr HPV HV
            go_wp2_with first | go_skip | ((with_reducible refine wpList_skip ?hw ?_); (case hw => with_unfolding_all rfl); simp only [Act.put, List.setIfInBounds_toArray, List.set_cons_succ, List.set_cons_zero]) | (go_at_call 22; refine Calls.mono (HF.out _ (S.pick [0, 1] rfl)) ?_; clear S; rintro e wz ⟨rfl, hE⟩) | ((with_reducible refine tot_done ?ht ?_); (case ht => kernel_rfl)) | ((with_reducible apply wps_text S); (case hm => kernel_rfl); (case hB => decide +kernel); clear S; intro wz S) | ((with_reducible apply wps_alloca (E := 42) S); (case hz => exact Tryd.zeroValue42); clear S; intro bz wz S) | ((with_reducible apply wps_alloca (E := 52) S); (case hz => exact Tryd.zeroValue52); clear S; intro bz wz S) | ((with_reducible apply wps_loada (T := 42) (k := 3) S 0); (case hx | hi => rfl); (case hk => exact Nat.le_of_ble_eq_true rfl); (case hT => decide +kernel))
            (try simp only [Exit.inBlock, Exit.then]); refine bodyPost_ret (results2 rfl (res_tmp rfl) (res_tmp rfl)) rfl ?_
            rw [HR.out]
            exact ⟨rfl, hE⟩
          | cons d r =>
            obtain ⟨R, o, rfl⟩ : ∃ R o, ar = some ⟨R, o, none⟩ := (S.sl 2 rfl).elim fun F h => h.head (by simp)
            have H0 : Hid ((d :: r)[0]? = some d) := Lib.hid rfl
            have HMd : Hid (mayE d = true) := Lib.hid (HMr.out d List.mem_cons_self)
            have HMr2 : Hid (∀ x ∈ r, mayE x = true) := Lib.hid (fun x hx => HMr.out x (List.mem_cons_of_mem _ hx))
            obtain ⟨wn, HWN⟩ : ∃ n, Hid (r.length + 1 = n) := ⟨_, Lib.hid rfl⟩
            have HL : Hid ((d :: r).length = wn) := Lib.hid (by rw [← HWN.out]; simp)
            rw [HL.out] at S hr4 ⊢
            have hwn1 : wn ≤ r.length + 1 := Nat.le_of_eq HWN.out.symm
            have hwn2 : r.length + 1 ≤ wn := Nat.le_of_eq HWN.out
            have c2 : (0 : Int) < (wn : Int) := by omega
            have c3 : 0 < wn := by omega
            clear HMr HL
            replace HMr2 := HMr2
            have HMr := HMr2
            clear HMr2
            go_upto_region 12 with first | go_skip | ((with_reducible refine wpList_skip ?hw ?_); (case hw => with_unfolding_all rfl); simp only [Act.put, List.setIfInBounds_toArray, List.set_cons_succ, List.set_cons_zero]) | ((with_reducible refine tot_done ?ht ?_); (case ht => kernel_rfl)) | ((with_reducible apply wps_text S); (case hm => kernel_rfl); (case hB => decide +kernel); clear S; intro wz S) | ((with_reducible apply wps_alloca (E := 42) S); (case hz => exact Tryd.zeroValue42); clear S; intro bz wz S) | ((with_reducible apply wps_alloca (E := 52) S); (case hz => exact Tryd.zeroValue52); clear S; intro bz wz S) | ((with_reducible apply wps_loada (T := 42) (k := 3) S 0); (case hx | hi => rfl); (case hk => exact Nat.le_of_ble_eq_true rfl); (case hT => decide +kernel))
            go_loopw [7] (fun n wr => KpRel3 w bB pv v T d r _ n [LibA tE pE, FormsT] wr) (fun n _ => 4096 - (intOf n).toNat)
            case atStart => exact ⟨1, Nat.le_refl _, by omega, by omega, rfl, Lib.hid (fun j e hj => by omega), S⟩
            case round =>
              clear S
              obtain ⟨m, hm1, hm2, hm3, rfl, HE, S⟩ := hrel
              by_cases hA : m < wn
              · have g1 : (m : Int) < wn := by omega
                by_cases hB : m < 4095
                · have g2 : (m : Int) < 4095 := by omega
                  obtain ⟨x, hx⟩ : ∃ x, r[m - 1]? = some x := ⟨_, List.getElem?_eq_getElem (by omega)⟩
                  have HX : Hid ((d :: r)[m]? = some x) := Lib.hid (by
                    obtain ⟨k, rfl⟩ : ∃ k, m = k + 1 := ⟨m - 1, by omega⟩
                    exact hx)
                  have hmx := may_of (HMr.out x (List.mem_of_getElem? hx))
                  have hmd := may_of HMd.out
                  have HC1 := Lib.hid (fun w F h => told_calls x w F h hmx.1 hmx.2.1)
                  have HC0 := Lib.hid (fun w F h => told_calls d w F h hmd.1 hmd.2.1)
                  by_cases hs : toldE x = toldE d
                  · have hsd : sameD x d = true := same_iff.2 hs
                    have He := Lib.hid ((do_ceqs (toldE x) (toldE d)).trans (decide_eq_true hs))
                    have HE2 : Hid (∀ j e, j + 1 < m + 1 → r[j]? = some e → sameD e d = true) := Lib.hid fun j e hj he => by
                      rcases Nat.lt_or_ge (j + 1) m with h | h
                      · exact HE.out j e h he
                      · obtain rfl : j = m - 1 := by omega
                        rw [hx] at he; cases he; exact hsd
                    clear HE hsd hs hmx hmd hx
                    generalize toldE x = tx1 at *
                    generalize toldE d = td1 at *
                    as_aux_lemma =>
                      go_upto_region 12 with fail
                      (refine wp_region_w (soft := [0, 1, 2, 3, 4, 5, 6, 7, 8, 9, 10, 11, 12, 13, 14, 15, 16, 17, 18, 19]) S ?hm ?hB ?_); (case hm => kernel_rfl); (case hB => decide +kernel); clear S
                      iterate 20
                        (with_reducible apply softs_cons)
                        (case hw =>
                          (with_reducible apply soft_of); (case hi => rfl)
                          intro T wz S
                          simp only [List.cons_append, List.nil_append] at S
                          go_wp2_with first | go_skip | ((with_reducible apply wps_loada_el S 2 (hj := HX.out) (q := 0) (vs := [.int .i64 x.what, .int .i64 x.a, .int .i64 x.b]) (m := 3)); (case hx | hi => rfl); (case hn => omega); (case hm | hv => rfl); (case hT => decide +kernel)) | ((with_reducible apply wps_loada_el S 2 (hj := H0.out) (q := 0) (vs := [.int .i64 d.what, .int .i64 d.a, .int .i64 d.b]) (m := 3)); (case hx | hi => rfl); (case hn => omega); (case hm | hv => rfl); (case hT => decide +kernel)) | (go_at_call 18; have hcz := HC1.out _ _ (S.get (i := 4) rfl).choose_spec; (with_reducible refine Calls.mono hcz ?_); clear hcz; rintro e wz ⟨rfl, hE⟩; replace S := S.ext (Keep.of_below hE); clear hE) | (go_at_call 18; have hcz := HC0.out _ _ (S.get (i := 4) rfl).choose_spec; (with_reducible refine Calls.mono hcz ?_); clear hcz; rintro e wz ⟨rfl, hE⟩; replace S := S.ext (Keep.of_below hE); clear hE) | ((with_reducible apply wpList_eql_agg (t := 42) (ks := [.int .i64, .int .i64, .int .i64]) (b := _)); (case hx | hy => rfl); (case hl | ha | hg => kernel_rfl); (case hfx | hfy => rfl); (case hb => exact He.out)) | ((with_reducible refine tot_done ?ht ?_); (case ht => kernel_rfl)) | ((with_reducible apply wps_alloca (E := 42) S); (case hz => exact Tryd.zeroValue42); clear S; intro bz wz S) | ((with_reducible apply wps_alloca (E := 52) S); (case hz => exact Tryd.zeroValue52); clear S; intro bz wz S) | ((with_reducible apply wps_loada (T := 42) (k := 3) S 0); (case hx | hi => rfl); (case hk => exact Nat.le_of_ble_eq_true rfl); (case hT => decide +kernel))
                          exact ⟨rfl, S⟩)
                        (case hs => exact ⟨_, rfl, by kernel_rfl⟩)
                      refine softs_nil ?_
                      (with_reducible apply W_done); (case hn => rfl); (case hr => decide +kernel)
                      intro wz S
                      simp only [List.append_nil] at S
                      go_wp2_with first | go_skip | ((with_reducible refine wpList_skip ?hw ?_); (case hw => with_unfolding_all rfl); simp only [Act.put, List.setIfInBounds_toArray, List.set_cons_succ, List.set_cons_zero]) | ((with_reducible refine tot_done ?ht ?_); (case ht => kernel_rfl)) | ((with_reducible apply wps_text S); (case hm => kernel_rfl); (case hB => decide +kernel); clear S; intro wz S) | ((with_reducible apply wps_alloca (E := 42) S); (case hz => exact Tryd.zeroValue42); clear S; intro bz wz S) | ((with_reducible apply wps_alloca (E := 52) S); (case hz => exact Tryd.zeroValue52); clear S; intro bz wz S) | ((with_reducible apply wps_loada (T := 42) (k := 3) S 0); (case hx | hi => rfl); (case hk => exact Nat.le_of_ble_eq_true rfl); (case hT => decide +kernel))
                      go_roundw
                      case rel => exact ⟨m + 1, by omega, by omega, by omega, by go_num, HE2, S⟩
                      case measure => first | (simp [intOf]; done) | (simp [intOf]; omega)
                  · have HK : Hid (runD d 4094 r = m - 1) := Lib.hid (runs_to hm1 hm2 hm3 HE.out (.inr (.inr ⟨x, hx, by rw [← Bool.not_eq_true]; exact fun e => hs (same_iff.1 e)⟩)))
                    have He := Lib.hid ((do_ceqs (toldE x) (toldE d)).trans (decide_eq_false hs))
                    clear hs hmx hmd hx
                    generalize toldE x = tx1 at *
                    generalize toldE d = td1 at *
                    go_upto_region 12 with fail
                    (refine wp_region_w (soft := [0, 1, 2, 3, 4, 5, 6, 7, 8, 9, 10, 11, 12, 13, 14, 15, 16, 17, 18, 19]) S ?hm ?hB ?_); (case hm => kernel_rfl); (case hB => decide +kernel); clear S
                    iterate 20
                      (with_reducible apply softs_cons)
                      (case hw =>
                        (with_reducible apply soft_of); (case hi => rfl)
                        intro T wz S
                        simp only [List.cons_append, List.nil_append] at S
                        go_wp2_with first | go_skip | ((with_reducible apply wps_loada_el S 2 (hj := HX.out) (q := 0) (vs := [.int .i64 x.what, .int .i64 x.a, .int .i64 x.b]) (m := 3)); (case hx | hi => rfl); (case hn => omega); (case hm | hv => rfl); (case hT => decide +kernel)) | ((with_reducible apply wps_loada_el S 2 (hj := H0.out) (q := 0) (vs := [.int .i64 d.what, .int .i64 d.a, .int .i64 d.b]) (m := 3)); (case hx | hi => rfl); (case hn => omega); (case hm | hv => rfl); (case hT => decide +kernel)) | (go_at_call 18; have hcz := HC1.out _ _ (S.get (i := 4) rfl).choose_spec; (with_reducible refine Calls.mono hcz ?_); clear hcz; rintro e wz ⟨rfl, hE⟩; replace S := S.ext (Keep.of_below hE); clear hE) | (go_at_call 18; have hcz := HC0.out _ _ (S.get (i := 4) rfl).choose_spec; (with_reducible refine Calls.mono hcz ?_); clear hcz; rintro e wz ⟨rfl, hE⟩; replace S := S.ext (Keep.of_below hE); clear hE) | ((with_reducible apply wpList_eql_agg (t := 42) (ks := [.int .i64, .int .i64, .int .i64]) (b := _)); (case hx | hy => rfl); (case hl | ha | hg => kernel_rfl); (case hfx | hfy => rfl); (case hb => exact He.out)) | ((with_reducible refine tot_done ?ht ?_); (case ht => kernel_rfl)) | ((with_reducible apply wps_alloca (E := 42) S); (case hz => exact Tryd.zeroValue42); clear S; intro bz wz S) | ((with_reducible apply wps_alloca (E := 52) S); (case hz => exact Tryd.zeroValue52); clear S; intro bz wz S) | ((with_reducible apply wps_loada (T := 42) (k := 3) S 0); (case hx | hi => rfl); (case hk => exact Nat.le_of_ble_eq_true rfl); (case hT => decide +kernel))
                        exact ⟨rfl, S⟩)
                      (case hs => exact ⟨_, rfl, by kernel_rfl⟩)
                    refine softs_nil ?_
                    (with_reducible apply W_done); (case hn => rfl); (case hr => decide +kernel)
                    intro wz S
                    simp only [List.append_nil] at S
                    -- m: how many; HK: runD d 4094 r = m - 1
                    have HQ2 : Hid (tx = T ++ (rowT d m ++ rowsGo 0 (r.drop (m - 1)))) := Lib.hid (by rw [HQ.out, rows_cons, HK.out, show 1 + (m - 1) = m by omega])
                    have HTL : Hid (T.length + 24 ≤ 200000) := Lib.hid (by
                      have h9 := congrArg List.length HQ.out
                      rw [List.length_append] at h9; omega)
                    have HTX := Lib.hid (fun w F F2 h h2 => stext_calls tE pE d w F F2 h h2 HMd.out)
                    have HRT : Hid (rowT d m = textE d ++ (if 1 < m then 32 :: 120 :: numT m else []) ++ [10]) := Lib.hid rfl
                    have hxl := text_len HMd.out
                    have HTK : Hid (((d :: r).take wn).drop m = r.drop (m - 1)) := Lib.hid (by
                      rw [← HWN.out, List.take_of_length_le (by simp)]
                      obtain ⟨k, rfl⟩ : ∃ k, m = k + 1 := ⟨m - 1, by omega⟩
                      rfl)
                    have HM3 : Hid (∀ x ∈ r.drop (m - 1), mayE x = true) := Lib.hid (fun x hx => HMr.out x (List.mem_of_mem_drop hx))
                    have hrl : (r.drop (m - 1)).length ≤ 4096 := by rw [List.length_drop]; omega
                    have HIT := Lib.hid (fun w F h => itoa_calls tE pE (m : Int) w F h (by omega) (by omega))
                    have hnl := numT_len (n := (m : Int)) (by omega)
                    clear HK HE HQ HMr HMd
                    generalize textE d = TX at *
                    generalize numT (m : Int) = NM at *
                    generalize rowT d m = RT at *
                    generalize r.drop (m - 1) = R2 at *
                    have HT1 : Hid (T.length + TX.length ≤ 4294967296) := Lib.hid (by have := HTL.out; omega)
                    by_cases h1m : 1 < m
                    · have g1 : (1 : Int) < m := by omega
                      have HT2 : Hid ((T ++ TX).length + (32 :: 120 :: NM).length ≤ 4294967296) := Lib.hid (by have := HTL.out; simp; omega)
                      have HT3 : Hid ((T ++ TX ++ 32 :: 120 :: NM).length + 1 ≤ 4294967296) := Lib.hid (by have := HTL.out; simp; omega)
                      have HQ3 : Hid (tx = (T ++ TX ++ 32 :: 120 :: NM ++ [10]) ++ rowsGo 0 R2) := Lib.hid (by rw [HQ2.out, HRT.out, if_pos h1m]; simp)
                      clear HQ2 HRT h1m HTL hxl
                      as_aux_lemma =>
                        go_upto_region 18 with first | go_skip | ((with_reducible refine wpList_skip ?hw ?_); (case hw => with_unfolding_all rfl); simp only [Act.put, List.setIfInBounds_toArray, List.set_cons_succ, List.set_cons_zero]) | ((with_reducible apply wps_loada_el S 2 (hj := H0.out) (q := 0) (vs := [.int .i64 d.what, .int .i64 d.a, .int .i64 d.b]) (m := 3)); (case hx | hi => rfl); (case hn => omega); (case hm | hv => rfl); (case hT => decide +kernel)) | (go_at_call 20; refine Calls.mono (HTX.out _ _ _ (S.get (i := 3) rfl).choose_spec (S.get (i := 4) rfl).choose_spec) ?_; rintro e wz ⟨rfl, hE⟩; replace S := S.ext (Keep.of_below hE); clear hE) | (go_at_call 21; refine Calls.mono (HIT.out _ _ (S.get (i := 3) rfl).choose_spec) ?_; rintro e wz ⟨rfl, hE⟩; replace S := S.ext (Keep.of_below hE); clear hE) | ((with_reducible apply wps_sadd (T := 9)); (case hx | hy => rfl); (case hn => first | omega | (simp; omega))) | (go_at_call 19; have hcz := write_calls _ _ _ T TX HPV.out HT1.out S; (with_reducible refine Calls.mono hcz ?_); clear hcz S; rintro e wz ⟨rw1, v1, rfl, S⟩) | (go_at_call 19; have hcz := write_calls _ _ _ (T ++ TX) (32 :: 120 :: NM) (.inr rfl) HT2.out S; (with_reducible refine Calls.mono hcz ?_); clear hcz S; rintro e wz ⟨rw2, v2, rfl, S⟩) | (go_at_call 19; have hcz := write_nl _ _ _ (T ++ TX ++ 32 :: 120 :: NM) (.inr rfl) HT3.out S; (with_reducible refine Calls.mono hcz ?_); clear hcz S; rintro e wz ⟨rw3, v3, rfl, S⟩) | ((with_reducible refine tot_done ?ht ?_); (case ht => kernel_rfl)) | ((with_reducible apply wps_text S); (case hm => kernel_rfl); (case hB => decide +kernel); clear S; intro wz S) | ((with_reducible apply wps_alloca (E := 42) S); (case hz => exact Tryd.zeroValue42); clear S; intro bz wz S) | ((with_reducible apply wps_alloca (E := 52) S); (case hz => exact Tryd.zeroValue52); clear S; intro bz wz S) | ((with_reducible apply wps_loada (T := 42) (k := 3) S 0); (case hx | hi => rfl); (case hk => exact Nat.le_of_ble_eq_true rfl); (case hT => decide +kernel))
                        all_goals
                          obtain ⟨T2, hT2⟩ : ∃ t, T ++ TX ++ 32 :: 120 :: NM ++ [10] = t := ⟨_, rfl⟩
                          rw [hT2] at S HQ3
                          have HNE : Hid (T2 ≠ []) := Lib.hid (by rw [← hT2]; simp)
                          clear hT2
                          go_wp2_with first | go_skip | ((with_reducible refine wpList_skip ?hw ?_); (case hw => with_unfolding_all rfl); simp only [Act.put, List.setIfInBounds_toArray, List.set_cons_succ, List.set_cons_zero]) | ((with_reducible apply wps_slice' (E := 42) S 2 (l := m) (u := wn)); (case hx | hi => rfl); (case hT => exact Tryd.underlying23); (case hE => intro w; kernel_rfl); (case hlo | hhi => first | exact .inr rfl | exact .inl ⟨rfl, rfl⟩); (case h1 | h2 => first | omega | (simp; omega)); clear S; intro az nz cz hnz S; simp only [List.set_cons_succ, List.set_cons_zero] at S) | ((with_reducible refine tot_done ?ht ?_); (case ht => kernel_rfl)) | ((with_reducible apply wps_text S); (case hm => kernel_rfl); (case hB => decide +kernel); clear S; intro wz S) | ((with_reducible apply wps_alloca (E := 42) S); (case hz => exact Tryd.zeroValue42); clear S; intro bz wz S) | ((with_reducible apply wps_alloca (E := 52) S); (case hz => exact Tryd.zeroValue52); clear S; intro bz wz S) | ((with_reducible apply wps_loada (T := 42) (k := 3) S 0); (case hx | hi => rfl); (case hk => exact Nat.le_of_ble_eq_true rfl); (case hT => decide +kernel))
                          rw [HTK.out] at S
                          go_roundw
                          case rel => exact ⟨R2, T2, _, _, hrl, HQ3, HM3, Lib.hid (.inr rfl), Lib.hid (fun e => absurd e HNE.out), S⟩
                          all_goals
                            have h9 := hnz.out
                            first
                              | omega
                              | (simp; omega)
                    · have g1 : ¬ (1 : Int) < m := by omega
                      have HT3 : Hid ((T ++ TX).length + 1 ≤ 4294967296) := Lib.hid (by have := HTL.out; simp; omega)
                      have HQ3 : Hid (tx = (T ++ TX ++ [10]) ++ rowsGo 0 R2) := Lib.hid (by rw [HQ2.out, HRT.out, if_neg h1m]; simp)
                      clear HQ2 HRT h1m HTL hxl hnl HIT
                      as_aux_lemma =>
                        go_upto_region 18 with first | go_skip | ((with_reducible refine wpList_skip ?hw ?_); (case hw => with_unfolding_all rfl); simp only [Act.put, List.setIfInBounds_toArray, List.set_cons_succ, List.set_cons_zero]) | ((with_reducible apply wps_loada_el S 2 (hj := H0.out) (q := 0) (vs := [.int .i64 d.what, .int .i64 d.a, .int .i64 d.b]) (m := 3)); (case hx | hi => rfl); (case hn => omega); (case hm | hv => rfl); (case hT => decide +kernel)) | (go_at_call 20; refine Calls.mono (HTX.out _ _ _ (S.get (i := 3) rfl).choose_spec (S.get (i := 4) rfl).choose_spec) ?_; rintro e wz ⟨rfl, hE⟩; replace S := S.ext (Keep.of_below hE); clear hE) | ((with_reducible apply wps_sadd (T := 9)); (case hx | hy => rfl); (case hn => first | omega | (simp; omega))) | (go_at_call 19; have hcz := write_calls _ _ _ T TX HPV.out HT1.out S; (with_reducible refine Calls.mono hcz ?_); clear hcz S; rintro e wz ⟨rw1, v1, rfl, S⟩) | (go_at_call 19; have hcz := write_nl _ _ _ (T ++ TX) (.inr rfl) HT3.out S; (with_reducible refine Calls.mono hcz ?_); clear hcz S; rintro e wz ⟨rw3, v3, rfl, S⟩) | ((with_reducible refine tot_done ?ht ?_); (case ht => kernel_rfl)) | ((with_reducible apply wps_text S); (case hm => kernel_rfl); (case hB => decide +kernel); clear S; intro wz S) | ((with_reducible apply wps_alloca (E := 42) S); (case hz => exact Tryd.zeroValue42); clear S; intro bz wz S) | ((with_reducible apply wps_alloca (E := 52) S); (case hz => exact Tryd.zeroValue52); clear S; intro bz wz S) | ((with_reducible apply wps_loada (T := 42) (k := 3) S 0); (case hx | hi => rfl); (case hk => exact Nat.le_of_ble_eq_true rfl); (case hT => decide +kernel))
                        all_goals
                          obtain ⟨T2, hT2⟩ : ∃ t, T ++ TX ++ [10] = t := ⟨_, rfl⟩
                          rw [hT2] at S HQ3
                          have HNE : Hid (T2 ≠ []) := Lib.hid (by rw [← hT2]; simp)
                          clear hT2
                          go_wp2_with first | go_skip | ((with_reducible refine wpList_skip ?hw ?_); (case hw => with_unfolding_all rfl); simp only [Act.put, List.setIfInBounds_toArray, List.set_cons_succ, List.set_cons_zero]) | ((with_reducible apply wps_slice' (E := 42) S 2 (l := m) (u := wn)); (case hx | hi => rfl); (case hT => exact Tryd.underlying23); (case hE => intro w; kernel_rfl); (case hlo | hhi => first | exact .inr rfl | exact .inl ⟨rfl, rfl⟩); (case h1 | h2 => first | omega | (simp; omega)); clear S; intro az nz cz hnz S; simp only [List.set_cons_succ, List.set_cons_zero] at S) | ((with_reducible refine tot_done ?ht ?_); (case ht => kernel_rfl)) | ((with_reducible apply wps_text S); (case hm => kernel_rfl); (case hB => decide +kernel); clear S; intro wz S) | ((with_reducible apply wps_alloca (E := 42) S); (case hz => exact Tryd.zeroValue42); clear S; intro bz wz S) | ((with_reducible apply wps_alloca (E := 52) S); (case hz => exact Tryd.zeroValue52); clear S; intro bz wz S) | ((with_reducible apply wps_loada (T := 42) (k := 3) S 0); (case hx | hi => rfl); (case hk => exact Nat.le_of_ble_eq_true rfl); (case hT => decide +kernel))
                          rw [HTK.out] at S
                          go_roundw
                          case rel => exact ⟨R2, T2, _, _, hrl, HQ3, HM3, Lib.hid (.inr rfl), Lib.hid (fun e => absurd e HNE.out), S⟩
                          all_goals
                            have h9 := hnz.out
                            first
                              | omega
                              | (simp; omega)
                · have HK : Hid (runD d 4094 r = m - 1) := Lib.hid (runs_to hm1 hm2 hm3 HE.out (.inl (by omega)))
                  have g2 : decide ((m : Int) < 4095) = false := decide_eq_false (by omega)
                  go_upto_region 12 with fail
                  (refine wp_region_w (soft := [0, 1, 2, 3, 4, 5, 6, 7, 8, 9, 10, 11, 12, 13, 14, 15, 16, 17, 18, 19]) S ?hm ?hB ?_); (case hm => kernel_rfl); (case hB => decide +kernel); clear S
                  iterate 20
                    (with_reducible apply softs_cons)
                    (case hw =>
                      (with_reducible apply soft_of); (case hi => rfl)
                      intro T wz S
                      simp only [List.cons_append, List.nil_append] at S
                      go_wp2_with first | go_skip | ((with_reducible refine tot_done ?ht ?_); (case ht => kernel_rfl)) | ((with_reducible apply wps_alloca (E := 42) S); (case hz => exact Tryd.zeroValue42); clear S; intro bz wz S) | ((with_reducible apply wps_alloca (E := 52) S); (case hz => exact Tryd.zeroValue52); clear S; intro bz wz S) | ((with_reducible apply wps_loada (T := 42) (k := 3) S 0); (case hx | hi => rfl); (case hk => exact Nat.le_of_ble_eq_true rfl); (case hT => decide +kernel))
                      exact ⟨rfl, S⟩)
                    (case hs => exact ⟨_, rfl, by kernel_rfl⟩)
                  refine softs_nil ?_
                  (with_reducible apply W_done); (case hn => rfl); (case hr => decide +kernel)
                  intro wz S
                  simp only [List.append_nil] at S
                  -- m: how many; HK: runD d 4094 r = m - 1
                  have HQ2 : Hid (tx = T ++ (rowT d m ++ rowsGo 0 (r.drop (m - 1)))) := Lib.hid (by rw [HQ.out, rows_cons, HK.out, show 1 + (m - 1) = m by omega])
                  have HTL : Hid (T.length + 24 ≤ 200000) := Lib.hid (by
                    have h9 := congrArg List.length HQ.out
                    rw [List.length_append] at h9; omega)
                  have HTX := Lib.hid (fun w F F2 h h2 => stext_calls tE pE d w F F2 h h2 HMd.out)
                  have HRT : Hid (rowT d m = textE d ++ (if 1 < m then 32 :: 120 :: numT m else []) ++ [10]) := Lib.hid rfl
                  have hxl := text_len HMd.out
                  have HTK : Hid (((d :: r).take wn).drop m = r.drop (m - 1)) := Lib.hid (by
                    rw [← HWN.out, List.take_of_length_le (by simp)]
                    obtain ⟨k, rfl⟩ : ∃ k, m = k + 1 := ⟨m - 1, by omega⟩
                    rfl)
                  have HM3 : Hid (∀ x ∈ r.drop (m - 1), mayE x = true) := Lib.hid (fun x hx => HMr.out x (List.mem_of_mem_drop hx))
                  have hrl : (r.drop (m - 1)).length ≤ 4096 := by rw [List.length_drop]; omega
                  have HIT := Lib.hid (fun w F h => itoa_calls tE pE (m : Int) w F h (by omega) (by omega))
                  have hnl := numT_len (n := (m : Int)) (by omega)
                  clear HK HE HQ HMr HMd
                  generalize textE d = TX at *
                  generalize numT (m : Int) = NM at *
                  generalize rowT d m = RT at *
                  generalize r.drop (m - 1) = R2 at *
                  have HT1 : Hid (T.length + TX.length ≤ 4294967296) := Lib.hid (by have := HTL.out; omega)
                  by_cases h1m : 1 < m
                  · have g1 : (1 : Int) < m := by omega
                    have HT2 : Hid ((T ++ TX).length + (32 :: 120 :: NM).length ≤ 4294967296) := Lib.hid (by have := HTL.out; simp; omega)
                    have HT3 : Hid ((T ++ TX ++ 32 :: 120 :: NM).length + 1 ≤ 4294967296) := Lib.hid (by have := HTL.out; simp; omega)
                    have HQ3 : Hid (tx = (T ++ TX ++ 32 :: 120 :: NM ++ [10]) ++ rowsGo 0 R2) := Lib.hid (by rw [HQ2.out, HRT.out, if_pos h1m]; simp)
                    clear HQ2 HRT h1m HTL hxl
                    as_aux_lemma =>
                      go_upto_region 18 with first | go_skip | ((with_reducible refine wpList_skip ?hw ?_); (case hw => with_unfolding_all rfl); simp only [Act.put, List.setIfInBounds_toArray, List.set_cons_succ, List.set_cons_zero]) | ((with_reducible apply wps_loada_el S 2 (hj := H0.out) (q := 0) (vs := [.int .i64 d.what, .int .i64 d.a, .int .i64 d.b]) (m := 3)); (case hx | hi => rfl); (case hn => omega); (case hm | hv => rfl); (case hT => decide +kernel)) | (go_at_call 20; refine Calls.mono (HTX.out _ _ _ (S.get (i := 3) rfl).choose_spec (S.get (i := 4) rfl).choose_spec) ?_; rintro e wz ⟨rfl, hE⟩; replace S := S.ext (Keep.of_below hE); clear hE) | (go_at_call 21; refine Calls.mono (HIT.out _ _ (S.get (i := 3) rfl).choose_spec) ?_; rintro e wz ⟨rfl, hE⟩; replace S := S.ext (Keep.of_below hE); clear hE) | ((with_reducible apply wps_sadd (T := 9)); (case hx | hy => rfl); (case hn => first | omega | (simp; omega))) | (go_at_call 19; have hcz := write_calls _ _ _ T TX HPV.out HT1.out S; (with_reducible refine Calls.mono hcz ?_); clear hcz S; rintro e wz ⟨rw1, v1, rfl, S⟩) | (go_at_call 19; have hcz := write_calls _ _ _ (T ++ TX) (32 :: 120 :: NM) (.inr rfl) HT2.out S; (with_reducible refine Calls.mono hcz ?_); clear hcz S; rintro e wz ⟨rw2, v2, rfl, S⟩) | (go_at_call 19; have hcz := write_nl _ _ _ (T ++ TX ++ 32 :: 120 :: NM) (.inr rfl) HT3.out S; (with_reducible refine Calls.mono hcz ?_); clear hcz S; rintro e wz ⟨rw3, v3, rfl, S⟩) | ((with_reducible refine tot_done ?ht ?_); (case ht => kernel_rfl)) | ((with_reducible apply wps_text S); (case hm => kernel_rfl); (case hB => decide +kernel); clear S; intro wz S) | ((with_reducible apply wps_alloca (E := 42) S); (case hz => exact Tryd.zeroValue42); clear S; intro bz wz S) | ((with_reducible apply wps_alloca (E := 52) S); (case hz => exact Tryd.zeroValue52); clear S; intro bz wz S) | ((with_reducible apply wps_loada (T := 42) (k := 3) S 0); (case hx | hi => rfl); (case hk => exact Nat.le_of_ble_eq_true rfl); (case hT => decide +kernel))
                      all_goals
                        obtain ⟨T2, hT2⟩ : ∃ t, T ++ TX ++ 32 :: 120 :: NM ++ [10] = t := ⟨_, rfl⟩
                        rw [hT2] at S HQ3
                        have HNE : Hid (T2 ≠ []) := Lib.hid (by rw [← hT2]; simp)
                        clear hT2
                        go_wp2_with first | go_skip | ((with_reducible refine wpList_skip ?hw ?_); (case hw => with_unfolding_all rfl); simp only [Act.put, List.setIfInBounds_toArray, List.set_cons_succ, List.set_cons_zero]) | ((with_reducible apply wps_slice' (E := 42) S 2 (l := m) (u := wn)); (case hx | hi => rfl); (case hT => exact Tryd.underlying23); (case hE => intro w; kernel_rfl); (case hlo | hhi => first | exact .inr rfl | exact .inl ⟨rfl, rfl⟩); (case h1 | h2 => first | omega | (simp; omega)); clear S; intro az nz cz hnz S; simp only [List.set_cons_succ, List.set_cons_zero] at S) | ((with_reducible refine tot_done ?ht ?_); (case ht => kernel_rfl)) | ((with_reducible apply wps_text S); (case hm => kernel_rfl); (case hB => decide +kernel); clear S; intro wz S) | ((with_reducible apply wps_alloca (E := 42) S); (case hz => exact Tryd.zeroValue42); clear S; intro bz wz S) | ((with_reducible apply wps_alloca (E := 52) S); (case hz => exact Tryd.zeroValue52); clear S; intro bz wz S) | ((with_reducible apply wps_loada (T := 42) (k := 3) S 0); (case hx | hi => rfl); (case hk => exact Nat.le_of_ble_eq_true rfl); (case hT => decide +kernel))
                        rw [HTK.out] at S
                        go_roundw
                        case rel => exact ⟨R2, T2, _, _, hrl, HQ3, HM3, Lib.hid (.inr rfl), Lib.hid (fun e => absurd e HNE.out), S⟩
                        all_goals
                          have h9 := hnz.out
                          first
                            | omega
                            | (simp; omega)
                  · have g1 : ¬ (1 : Int) < m := by omega
                    have HT3 : Hid ((T ++ TX).length + 1 ≤ 4294967296) := Lib.hid (by have := HTL.out; simp; omega)
                    have HQ3 : Hid (tx = (T ++ TX ++ [10]) ++ rowsGo 0 R2) := Lib.hid (by rw [HQ2.out, HRT.out, if_neg h1m]; simp)
                    clear HQ2 HRT h1m HTL hxl hnl HIT
                    as_aux_lemma =>
                      go_upto_region 18 with first | go_skip | ((with_reducible refine wpList_skip ?hw ?_); (case hw => with_unfolding_all rfl); simp only [Act.put, List.setIfInBounds_toArray, List.set_cons_succ, List.set_cons_zero]) | ((with_reducible apply wps_loada_el S 2 (hj := H0.out) (q := 0) (vs := [.int .i64 d.what, .int .i64 d.a, .int .i64 d.b]) (m := 3)); (case hx | hi => rfl); (case hn => omega); (case hm | hv => rfl); (case hT => decide +kernel)) | (go_at_call 20; refine Calls.mono (HTX.out _ _ _ (S.get (i := 3) rfl).choose_spec (S.get (i := 4) rfl).choose_spec) ?_; rintro e wz ⟨rfl, hE⟩; replace S := S.ext (Keep.of_below hE); clear hE) | ((with_reducible apply wps_sadd (T := 9)); (case hx | hy => rfl); (case hn => first | omega | (simp; omega))) | (go_at_call 19; have hcz := write_calls _ _ _ T TX HPV.out HT1.out S; (with_reducible refine Calls.mono hcz ?_); clear hcz S; rintro e wz ⟨rw1, v1, rfl, S⟩) | (go_at_call 19; have hcz := write_nl _ _ _ (T ++ TX) (.inr rfl) HT3.out S; (with_reducible refine Calls.mono hcz ?_); clear hcz S; rintro e wz ⟨rw3, v3, rfl, S⟩) | ((with_reducible refine tot_done ?ht ?_); (case ht => kernel_rfl)) | ((with_reducible apply wps_text S); (case hm => kernel_rfl); (case hB => decide +kernel); clear S; intro wz S) | ((with_reducible apply wps_alloca (E := 42) S); (case hz => exact Tryd.zeroValue42); clear S; intro bz wz S) | ((with_reducible apply wps_alloca (E := 52) S); (case hz => exact Tryd.zeroValue52); clear S; intro bz wz S) | ((with_reducible apply wps_loada (T := 42) (k := 3) S 0); (case hx | hi => rfl); (case hk => exact Nat.le_of_ble_eq_true rfl); (case hT => decide +kernel))
                      all_goals
                        obtain ⟨T2, hT2⟩ : ∃ t, T ++ TX ++ [10] = t := ⟨_, rfl⟩
                        rw [hT2] at S HQ3
                        have HNE : Hid (T2 ≠ []) := Lib.hid (by rw [← hT2]; simp)
                        clear hT2
                        go_wp2_with first | go_skip | ((with_reducible refine wpList_skip ?hw ?_); (case hw => with_unfolding_all rfl); simp only [Act.put, List.setIfInBounds_toArray, List.set_cons_succ, List.set_cons_zero]) | ((with_reducible apply wps_slice' (E := 42) S 2 (l := m) (u := wn)); (case hx | hi => rfl); (case hT => exact Tryd.underlying23); (case hE => intro w; kernel_rfl); (case hlo | hhi => first | exact .inr rfl | exact .inl ⟨rfl, rfl⟩); (case h1 | h2 => first | omega | (simp; omega)); clear S; intro az nz cz hnz S; simp only [List.set_cons_succ, List.set_cons_zero] at S) | ((with_reducible refine tot_done ?ht ?_); (case ht => kernel_rfl)) | ((with_reducible apply wps_text S); (case hm => kernel_rfl); (case hB => decide +kernel); clear S; intro wz S) | ((with_reducible apply wps_alloca (E := 42) S); (case hz => exact Tryd.zeroValue42); clear S; intro bz wz S) | ((with_reducible apply wps_alloca (E := 52) S); (case hz => exact Tryd.zeroValue52); clear S; intro bz wz S) | ((with_reducible apply wps_loada (T := 42) (k := 3) S 0); (case hx | hi => rfl); (case hk => exact Nat.le_of_ble_eq_true rfl); (case hT => decide +kernel))
                        rw [HTK.out] at S
                        go_roundw
                        case rel => exact ⟨R2, T2, _, _, hrl, HQ3, HM3, Lib.hid (.inr rfl), Lib.hid (fun e => absurd e HNE.out), S⟩
                        all_goals
                          have h9 := hnz.out
                          first
                            | omega
                            | (simp; omega)
              · have HK : Hid (runD d 4094 r = m - 1) := Lib.hid (runs_to hm1 hm2 hm3 HE.out (.inr (.inl (by omega))))
                have g1 : decide ((m : Int) < (wn : Int)) = false := decide_eq_false (by omega)
                go_upto_region 12 with fail
                (refine wp_region_w (soft := [0, 1, 2, 3, 4, 5, 6, 7, 8, 9, 10, 11, 12, 13, 14, 15, 16, 17, 18, 19]) S ?hm ?hB ?_); (case hm => kernel_rfl); (case hB => decide +kernel); clear S
                iterate 20
                  (with_reducible apply softs_cons)
                  (case hw =>
                    (with_reducible apply soft_of); (case hi => rfl)
                    intro T wz S
                    simp only [List.cons_append, List.nil_append] at S
                    go_wp2_with first | go_skip | ((with_reducible refine tot_done ?ht ?_); (case ht => kernel_rfl)) | ((with_reducible apply wps_alloca (E := 42) S); (case hz => exact Tryd.zeroValue42); clear S; intro bz wz S) | ((with_reducible apply wps_alloca (E := 52) S); (case hz => exact Tryd.zeroValue52); clear S; intro bz wz S) | ((with_reducible apply wps_loada (T := 42) (k := 3) S 0); (case hx | hi => rfl); (case hk => exact Nat.le_of_ble_eq_true rfl); (case hT => decide +kernel))
                    exact ⟨rfl, S⟩)
                  (case hs => exact ⟨_, rfl, by kernel_rfl⟩)
                refine softs_nil ?_
                (with_reducible apply W_done); (case hn => rfl); (case hr => decide +kernel)
                intro wz S
                simp only [List.append_nil] at S
                -- m: how many; HK: runD d 4094 r = m - 1
                have HQ2 : Hid (tx = T ++ (rowT d m ++ rowsGo 0 (r.drop (m - 1)))) := Lib.hid (by rw [HQ.out, rows_cons, HK.out, show 1 + (m - 1) = m by omega])
                have HTL : Hid (T.length + 24 ≤ 200000) := Lib.hid (by
                  have h9 := congrArg List.length HQ.out
                  rw [List.length_append] at h9; omega)
                have HTX := Lib.hid (fun w F F2 h h2 => stext_calls tE pE d w F F2 h h2 HMd.out)
                have HRT : Hid (rowT d m = textE d ++ (if 1 < m then 32 :: 120 :: numT m else []) ++ [10]) := Lib.hid rfl
                have hxl := text_len HMd.out
                have HTK : Hid (((d :: r).take wn).drop m = r.drop (m - 1)) := Lib.hid (by
                  rw [← HWN.out, List.take_of_length_le (by simp)]
                  obtain ⟨k, rfl⟩ : ∃ k, m = k + 1 := ⟨m - 1, by omega⟩
                  rfl)
                have HM3 : Hid (∀ x ∈ r.drop (m - 1), mayE x = true) := Lib.hid (fun x hx => HMr.out x (List.mem_of_mem_drop hx))
                have hrl : (r.drop (m - 1)).length ≤ 4096 := by rw [List.length_drop]; omega
                have HIT := Lib.hid (fun w F h => itoa_calls tE pE (m : Int) w F h (by omega) (by omega))
                have hnl := numT_len (n := (m : Int)) (by omega)
                clear HK HE HQ HMr HMd
                generalize textE d = TX at *
                generalize numT (m : Int) = NM at *
                generalize rowT d m = RT at *
                generalize r.drop (m - 1) = R2 at *
                have HT1 : Hid (T.length + TX.length ≤ 4294967296) := Lib.hid (by have := HTL.out; omega)
                by_cases h1m : 1 < m
                · have g1 : (1 : Int) < m := by omega
                  have HT2 : Hid ((T ++ TX).length + (32 :: 120 :: NM).length ≤ 4294967296) := Lib.hid (by have := HTL.out; simp; omega)
                  have HT3 : Hid ((T ++ TX ++ 32 :: 120 :: NM).length + 1 ≤ 4294967296) := Lib.hid (by have := HTL.out; simp; omega)
                  have HQ3 : Hid (tx = (T ++ TX ++ 32 :: 120 :: NM ++ [10]) ++ rowsGo 0 R2) := Lib.hid (by rw [HQ2.out, HRT.out, if_pos h1m]; simp)
                  clear HQ2 HRT h1m HTL hxl
                  as_aux_lemma =>
                    go_upto_region 18 with first | go_skip | ((with_reducible refine wpList_skip ?hw ?_); (case hw => with_unfolding_all rfl); simp only [Act.put, List.setIfInBounds_toArray, List.set_cons_succ, List.set_cons_zero]) | ((with_reducible apply wps_loada_el S 2 (hj := H0.out) (q := 0) (vs := [.int .i64 d.what, .int .i64 d.a, .int .i64 d.b]) (m := 3)); (case hx | hi => rfl); (case hn => omega); (case hm | hv => rfl); (case hT => decide +kernel)) | (go_at_call 20; refine Calls.mono (HTX.out _ _ _ (S.get (i := 3) rfl).choose_spec (S.get (i := 4) rfl).choose_spec) ?_; rintro e wz ⟨rfl, hE⟩; replace S := S.ext (Keep.of_below hE); clear hE) | (go_at_call 21; refine Calls.mono (HIT.out _ _ (S.get (i := 3) rfl).choose_spec) ?_; rintro e wz ⟨rfl, hE⟩; replace S := S.ext (Keep.of_below hE); clear hE) | ((with_reducible apply wps_sadd (T := 9)); (case hx | hy => rfl); (case hn => first | omega | (simp; omega))) | (go_at_call 19; have hcz := write_calls _ _ _ T TX HPV.out HT1.out S; (with_reducible refine Calls.mono hcz ?_); clear hcz S; rintro e wz ⟨rw1, v1, rfl, S⟩) | (go_at_call 19; have hcz := write_calls _ _ _ (T ++ TX) (32 :: 120 :: NM) (.inr rfl) HT2.out S; (with_reducible refine Calls.mono hcz ?_); clear hcz S; rintro e wz ⟨rw2, v2, rfl, S⟩) | (go_at_call 19; have hcz := write_nl _ _ _ (T ++ TX ++ 32 :: 120 :: NM) (.inr rfl) HT3.out S; (with_reducible refine Calls.mono hcz ?_); clear hcz S; rintro e wz ⟨rw3, v3, rfl, S⟩) | ((with_reducible refine tot_done ?ht ?_); (case ht => kernel_rfl)) | ((with_reducible apply wps_text S); (case hm => kernel_rfl); (case hB => decide +kernel); clear S; intro wz S) | ((with_reducible apply wps_alloca (E := 42) S); (case hz => exact Tryd.zeroValue42); clear S; intro bz wz S) | ((with_reducible apply wps_alloca (E := 52) S); (case hz => exact Tryd.zeroValue52); clear S; intro bz wz S) | ((with_reducible apply wps_loada (T := 42) (k := 3) S 0); (case hx | hi => rfl); (case hk => exact Nat.le_of_ble_eq_true rfl); (case hT => decide +kernel))
                    all_goals
                      obtain ⟨T2, hT2⟩ : ∃ t, T ++ TX ++ 32 :: 120 :: NM ++ [10] = t := ⟨_, rfl⟩
                      rw [hT2] at S HQ3
                      have HNE : Hid (T2 ≠ []) := Lib.hid (by rw [← hT2]; simp)
                      clear hT2
                      go_wp2_with first | go_skip | ((with_reducible refine wpList_skip ?hw ?_); (case hw => with_unfolding_all rfl); simp only [Act.put, List.setIfInBounds_toArray, List.set_cons_succ, List.set_cons_zero]) | ((with_reducible apply wps_slice' (E := 42) S 2 (l := m) (u := wn)); (case hx | hi => rfl); (case hT => exact Tryd.underlying23); (case hE => intro w; kernel_rfl); (case hlo | hhi => first | exact .inr rfl | exact .inl ⟨rfl, rfl⟩); (case h1 | h2 => first | omega | (simp; omega)); clear S; intro az nz cz hnz S; simp only [List.set_cons_succ, List.set_cons_zero] at S) | ((with_reducible refine tot_done ?ht ?_); (case ht => kernel_rfl)) | ((with_reducible apply wps_text S); (case hm => kernel_rfl); (case hB => decide +kernel); clear S; intro wz S) | ((with_reducible apply wps_alloca (E := 42) S); (case hz => exact Tryd.zeroValue42); clear S; intro bz wz S) | ((with_reducible apply wps_alloca (E := 52) S); (case hz => exact Tryd.zeroValue52); clear S; intro bz wz S) | ((with_reducible apply wps_loada (T := 42) (k := 3) S 0); (case hx | hi => rfl); (case hk => exact Nat.le_of_ble_eq_true rfl); (case hT => decide +kernel))
                      rw [HTK.out] at S
                      go_roundw
                      case rel => exact ⟨R2, T2, _, _, hrl, HQ3, HM3, Lib.hid (.inr rfl), Lib.hid (fun e => absurd e HNE.out), S⟩
                      all_goals
                        have h9 := hnz.out
                        first
                          | omega
                          | (simp; omega)
                · have g1 : ¬ (1 : Int) < m := by omega
                  have HT3 : Hid ((T ++ TX).length + 1 ≤ 4294967296) := Lib.hid (by have := HTL.out; simp; omega)
                  have HQ3 : Hid (tx = (T ++ TX ++ [10]) ++ rowsGo 0 R2) := Lib.hid (by rw [HQ2.out, HRT.out, if_neg h1m]; simp)
                  clear HQ2 HRT h1m HTL hxl hnl HIT
                  as_aux_lemma =>
                    go_upto_region 18 with first | go_skip | ((with_reducible refine wpList_skip ?hw ?_); (case hw => with_unfolding_all rfl); simp only [Act.put, List.setIfInBounds_toArray, List.set_cons_succ, List.set_cons_zero]) | ((with_reducible apply wps_loada_el S 2 (hj := H0.out) (q := 0) (vs := [.int .i64 d.what, .int .i64 d.a, .int .i64 d.b]) (m := 3)); (case hx | hi => rfl); (case hn => omega); (case hm | hv => rfl); (case hT => decide +kernel)) | (go_at_call 20; refine Calls.mono (HTX.out _ _ _ (S.get (i := 3) rfl).choose_spec (S.get (i := 4) rfl).choose_spec) ?_; rintro e wz ⟨rfl, hE⟩; replace S := S.ext (Keep.of_below hE); clear hE) | ((with_reducible apply wps_sadd (T := 9)); (case hx | hy => rfl); (case hn => first | omega | (simp; omega))) | (go_at_call 19; have hcz := write_calls _ _ _ T TX HPV.out HT1.out S; (with_reducible refine Calls.mono hcz ?_); clear hcz S; rintro e wz ⟨rw1, v1, rfl, S⟩) | (go_at_call 19; have hcz := write_nl _ _ _ (T ++ TX) (.inr rfl) HT3.out S; (with_reducible refine Calls.mono hcz ?_); clear hcz S; rintro e wz ⟨rw3, v3, rfl, S⟩) | ((with_reducible refine tot_done ?ht ?_); (case ht => kernel_rfl)) | ((with_reducible apply wps_text S); (case hm => kernel_rfl); (case hB => decide +kernel); clear S; intro wz S) | ((with_reducible apply wps_alloca (E := 42) S); (case hz => exact Tryd.zeroValue42); clear S; intro bz wz S) | ((with_reducible apply wps_alloca (E := 52) S); (case hz => exact Tryd.zeroValue52); clear S; intro bz wz S) | ((with_reducible apply wps_loada (T := 42) (k := 3) S 0); (case hx | hi => rfl); (case hk => exact Nat.le_of_ble_eq_true rfl); (case hT => decide +kernel))
                    all_goals
                      obtain ⟨T2, hT2⟩ : ∃ t, T ++ TX ++ [10] = t := ⟨_, rfl⟩
                      rw [hT2] at S HQ3
                      have HNE : Hid (T2 ≠ []) := Lib.hid (by rw [← hT2]; simp)
                      clear hT2
                      go_wp2_with first | go_skip | ((with_reducible refine wpList_skip ?hw ?_); (case hw => with_unfolding_all rfl); simp only [Act.put, List.setIfInBounds_toArray, List.set_cons_succ, List.set_cons_zero]) | ((with_reducible apply wps_slice' (E := 42) S 2 (l := m) (u := wn)); (case hx | hi => rfl); (case hT => exact Tryd.underlying23); (case hE => intro w; kernel_rfl); (case hlo | hhi => first | exact .inr rfl | exact .inl ⟨rfl, rfl⟩); (case h1 | h2 => first | omega | (simp; omega)); clear S; intro az nz cz hnz S; simp only [List.set_cons_succ, List.set_cons_zero] at S) | ((with_reducible refine tot_done ?ht ?_); (case ht => kernel_rfl)) | ((with_reducible apply wps_text S); (case hm => kernel_rfl); (case hB => decide +kernel); clear S; intro wz S) | ((with_reducible apply wps_alloca (E := 42) S); (case hz => exact Tryd.zeroValue42); clear S; intro bz wz S) | ((with_reducible apply wps_alloca (E := 52) S); (case hz => exact Tryd.zeroValue52); clear S; intro bz wz S) | ((with_reducible apply wps_loada (T := 42) (k := 3) S 0); (case hx | hi => rfl); (case hk => exact Nat.le_of_ble_eq_true rfl); (case hT => decide +kernel))
                      rw [HTK.out] at S
                      go_roundw
                      case rel => exact ⟨R2, T2, _, _, hrl, HQ3, HM3, Lib.hid (.inr rfl), Lib.hid (fun e => absurd e HNE.out), S⟩
                      all_goals
                        have h9 := hnz.out
                        first
                          | omega
                          | (simp; omega)
end Go.Proofs.YtkcnbejpmknaoaaDoor

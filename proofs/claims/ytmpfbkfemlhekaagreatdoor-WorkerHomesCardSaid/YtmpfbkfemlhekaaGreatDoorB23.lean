import Derived.Test.YtmpfbkfemlhekaaGreatDoorB22
/- The walks of the reference's May and Check (of programs). -/
namespace Go.Proofs.YtmpfbkfemlhekaaGreatDoor.Mem
open Go Go.RowKit Reg
section
variable {P : Program} {ops : Array Oper} {rest : List Oper} {a : Act} {Q : Exit → Act → World → Prop} {d : Option Tmp} {tt : TypeId} {p : String} {af : Array Edge} {gd : Option (Nat × Bool)} {x y : Operand} {w : World}
end
end Go.Proofs.YtmpfbkfemlhekaaGreatDoor.Mem
namespace Go.Proofs.YtmpfbkfemlhekaaGreatDoor
open Go Go.RowKit Reg Mem

def kOk (n j : Nat) : Bool := match kindsL[n]?, table[n + 1]? with
  | some ks, some t => (match ks[j]? with
    | some b => (b == 99 && ask t.num j == 1) || (b == 110 && ask t.num j == 2) || (b == 112 && ask t.num j == 3) || (b == 107 && ask t.num j == 4)
    | none => ask t.num j == 0 && decide (ks.size ≤ j))
  | _, _ => false
theorem kOk_all : ∀ n : Fin 15, ∀ j : Fin 4, kOk n.1 j.1 = true := by decide +kernel
theorem kinds_ask {n j : Nat} {ks : ByteArray} {t : About} (hj : j < 4) (hk : kindsL[n]? = some ks) (ht : table[n + 1]? = some t) :
    (ks[j]? = some 99 ∧ ask t.num j = 1) ∨ (ks[j]? = some 110 ∧ ask t.num j = 2) ∨ (ks[j]? = some 112 ∧ ask t.num j = 3) ∨ (ks[j]? = some 107 ∧ ask t.num j = 4) ∨ (ks.size ≤ j ∧ ask t.num j = 0) := by
  have hn : n < 15 := (List.getElem?_eq_some_iff.1 hk).1
  have h := kOk_all ⟨n, hn⟩ ⟨j, hj⟩
  unfold kOk at h
  simp only [hk, ht] at h
  cases hb : ks[j]? with
  | none => rw [hb] at h; simp at h; exact .inr (.inr (.inr (.inr ⟨h.2, h.1⟩)))
  | some b =>
    rw [hb] at h
    simp only [Bool.or_eq_true, Bool.and_eq_true, beq_iff_eq] at h
    rcases h with ((⟨rfl, h⟩ | ⟨rfl, h⟩) | ⟨rfl, h⟩) | ⟨rfl, h⟩
    · exact .inl ⟨rfl, h⟩
    · exact .inr (.inl ⟨rfl, h⟩)
    · exact .inr (.inr (.inl ⟨rfl, h⟩))
    · exact .inr (.inr (.inr (.inl ⟨rfl, h⟩)))
theorem words_all : ∀ s ∈ wordsL, s.toList.isEmpty = false := by decide +kernel
theorem may_all {x : Instr} {many : Int} {t : About} {n : Nat} (hop : x.op = (n : Int) + 1) (ht : table[n + 1]? = some t) (h : ∀ q : Nat, q < 4 → fitsN (ask t.num q) (numb x q) many = true) : mayE x many = 0 := by
  have hn : n + 1 < 16 := by rw [← table_len]; exact (List.getElem?_eq_some_iff.1 ht).1
  have h1 : isOp x.op = true := by simp [isOp]; omega
  rw [may_eq (t := t) h1 (by rw [hop]; exact ht)]
  have h0 := h 0 (by omega); have h1 := h 1 (by omega); have h2 := h 2 (by omega); have h3 := h 3 (by omega)
  simp only [ask, numb] at h0 h1 h2 h3
  rw [h0, h1, h2, h3]; rfl
theorem may_bad {x : Instr} {many : Int} {t : About} {n j : Nat} (hop : x.op = (n : Int) + 1) (ht : table[n + 1]? = some t) (hj : j < 4) (h : fitsN (ask t.num j) (numb x j) many = false) : mayE x many = 10 := by
  have hn : n + 1 < 16 := by rw [← table_len]; exact (List.getElem?_eq_some_iff.1 ht).1
  have h1 : isOp x.op = true := by simp [isOp]; omega
  rw [may_eq (t := t) h1 (by rw [hop]; exact ht), if_neg]
  intro hh
  simp only [Bool.and_eq_true] at hh
  obtain rfl | rfl | rfl | rfl : j = 0 ∨ j = 1 ∨ j = 2 ∨ j = 3 := by omega
  · rw [show ask t.num 0 = t.num.n0 from rfl, show numb x 0 = x.a from rfl, hh.1.1.1] at h; cases h
  · rw [show ask t.num 1 = t.num.n1 from rfl, show numb x 1 = x.b from rfl, hh.1.1.2] at h; cases h
  · rw [show ask t.num 2 = t.num.n2 from rfl, show numb x 2 = x.c from rfl, hh.1.2] at h; cases h
  · rw [show ask t.num 3 = t.num.n3 from rfl, show numb x 3 = x.d from rfl, hh.2] at h; cases h
def RMayRel (x : Instr) (t : About) (many : Int) (n : Int) (bx : Nat) (w : World) (i : Value) (wr : World) : Prop :=
  ∃ j : Nat, j ≤ 4 ∧ i = .int .i64 j ∧ Hid (∀ q : Nat, q < j → fitsN (ask t.num q) (numb x q) many = true) ∧ St (fun _ => False) w wr [Blk false bx #[.int .i64 (n + 1), .int .i64 x.a, .int .i64 x.b, .int .i64 x.c, .int .i64 x.d] 216]
theorem fits_snoc {x : Instr} {t : About} {many : Int} {j : Nat} (h : ∀ q : Nat, q < j → fitsN (ask t.num q) (numb x q) many = true) (hj : fitsN (ask t.num j) (numb x j) many = true) : ∀ q : Nat, q < j + 1 → fitsN (ask t.num q) (numb x q) many = true := fun q hq => by
  by_cases e : q = j
  · subst e; exact hj
  · exact h q (by omega)
set_option maxRecDepth 100000 in
set_option maxHeartbeats 8000000 in
theorem rmay_calls (x : Instr) (many : Int) (w : World) : Calls Tryz.prog 114 #[.agg #[.int .i64 x.op, .int .i64 x.a, .int .i64 x.b, .int .i64 x.c, .int .i64 x.d], .int .i64 many] w fun r w' => r = .returned (.int .i64 (mayE x many)) ∧ Below w.heap.size w w' := by
  have S := St.init (fun _ => False) w
  by_cases h1 : 1 ≤ x.op ∧ x.op ≤ 15
  · obtain ⟨n, hop⟩ : ∃ n : Nat, x.op = (n : Int) + 1 := ⟨(x.op - 1).toNat, by omega⟩
    have hn : n < 15 := by omega
    obtain ⟨s, hs⟩ : ∃ s, wordsL[n]? = some s := ⟨_, List.getElem?_eq_getElem hn⟩
    obtain ⟨ks, hk⟩ : ∃ s, kindsL[n]? = some s := ⟨_, List.getElem?_eq_getElem hn⟩
    obtain ⟨t, ht⟩ : ∃ t, table[n + 1]? = some t := ⟨_, List.getElem?_eq_getElem (by rw [table_len]; omega)⟩
    have hs0 : s.toList.isEmpty = false := words_all s (List.mem_of_getElem? hs)
    have HNu : Hid (∀ (j : Nat), j < 4 → ∀ w, Calls Tryz.prog 177 #[.agg #[.int .i64 ((n : Int) + 1), .int .i64 x.a, .int .i64 x.b, .int .i64 x.c, .int .i64 x.d], .int .i64 j] w fun r w' => r = .returned (.int .i64 (numb x j)) ∧ Below w.heap.size w w') := fun j hj w => by
      have := rnumber_calls x j hj w; rwa [hop] at this
    have HKA : Hid (∀ j : Nat, j < 4 → (ks[j]? = some 99 ∧ ask t.num j = 1) ∨ (ks[j]? = some 110 ∧ ask t.num j = 2) ∨ (ks[j]? = some 112 ∧ ask t.num j = 3) ∨ (ks[j]? = some 107 ∧ ask t.num j = 4) ∨ (ks.size ≤ j ∧ ask t.num j = 0)) := fun j hj => kinds_ask hj hk ht
    have HOK : Hid ((∀ q : Nat, q < 4 → fitsN (ask t.num q) (numb x q) many = true) → mayE x many = 0) := fun h => may_all hop ht h
    have HBD : Hid (∀ j : Nat, j < 4 → fitsN (ask t.num j) (numb x j) many = false → mayE x many = 10) := fun j hj h => may_bad hop ht hj h
    rw [hop]
    have Hs := Lib.hid hs
    have Hk := Lib.hid hk
    have Ht := Lib.hid ht
    clear hs hk ht
    clear h1 hop
    go_enter Tryz.func114, Tryz.ntmps114
    go_wp2_with first | go_skip | ((with_reducible refine wpList_skip ?hw ?_); (case hw => with_unfolding_all rfl); simp only [Act.put, List.setIfInBounds_toArray, List.set_cons_succ, List.set_cons_zero]) | ((with_reducible apply wps_boxa S); (case hx => rfl); clear S; intro bx wz S) | (go_at_call 175; refine Calls.mono (rword_calls n s Hs.out _) ?_; rintro e wz ⟨rfl, hE⟩; replace S := S.ext (Keep.of_below hE); clear hE) | (go_at_call 176; refine Calls.mono (rkinds_calls n ks Hk.out _) ?_; rintro e wz ⟨rfl, hE⟩; replace S := S.ext (Keep.of_below hE); clear hE) | ((with_reducible refine tot_done ?ht ?_); (case ht => kernel_rfl)) | ((with_reducible apply wps_boxa S); (case hx => rfl); clear S; intro bz wz S) | ((with_reducible apply wps_box1 (v := .int _ _) S); (case hx | h1 => rfl); clear S; intro bz wz S) | ((with_reducible apply wps_box1 (v := .bool _) S); (case hx | h1 => rfl); clear S; intro bz wz S) | ((with_reducible apply wps_box1 (v := .slice _ _ _) S); (case hx | h1 => rfl); clear S; intro bz wz S) | ((with_reducible apply wps_box1 (v := .pointer _) S); (case hx | h1 => rfl); clear S; intro bz wz S) | ((with_reducible apply wps_box1 (v := .map _) S); (case hx | h1 => rfl); clear S; intro bz wz S) | ((with_reducible apply wps_box1 (v := .string _) S); (case hx | h1 => rfl); clear S; intro bz wz S) | ((with_reducible apply wps_box1 (v := .func _ _ _) S); (case hx | h1 => rfl); clear S; intro bz wz S) | ((with_reducible apply wps_load S 0); (case hx | hi | hu => rfl); (case hT => decide +kernel)) | ((with_reducible apply wps_loada (T := 216) (k := 5) S 0); (case hx | hi => rfl); (case hk => exact Nat.le_of_ble_eq_true rfl); (case hT => decide +kernel))
    go_loopw [6] (fun i wr => RMayRel x t many n bx w i wr) (fun i _ => 4 - (intOf i).toNat)
    case atStart => exact ⟨0, by omega, rfl, fun q h => by omega, S⟩
    case round =>
      clear S
      obtain ⟨j, hj, rfl, Hf, S⟩ := hrel
      by_cases hlt : j < 4
      · have hlt2 : (j : Int) < 4 := by omega
        have HN1 := Lib.hid (HNu.out j hlt)
        have HB1 := Lib.hid (HBD.out j hlt)
        have hka := HKA.out j hlt
        generalize hv : numb x j = v at *
        rcases hka with ⟨hb, ha⟩ | ⟨hb, ha⟩ | ⟨hb, ha⟩ | ⟨hb, ha⟩ | ⟨hb, ha⟩
        · skip
          have hjs : j < ks.size := by
            rcases Nat.lt_or_ge j ks.size with h | h
            · exact h
            · rw [ByteArray.getElem?_ge' ks _ (by omega)] at hb; cases hb
          have hjs2 : (j : Int) < ks.size := by omega
          have hbt : ((ks[j]'hjs).toNat : Int) = 99 := by
            have h2 := ByteArray.getElem?_lt' ks j hjs
            rw [h2] at hb
            rw [Option.some.inj hb]; rfl
          clear hb
          by_cases g81 : v < 0
          · skip
            have hfit := (show fitsN (ask t.num j) v many = false by rw [ha]; simp [fitsN]; try omega)
            have Hfit := Lib.hid hfit
            have Hv := Lib.hid hv
            clear hfit hv
            go_wp2_with first | go_skip | ((with_reducible refine wpList_skip ?hw ?_); (case hw => with_unfolding_all rfl); simp only [Act.put, List.setIfInBounds_toArray, List.set_cons_succ, List.set_cons_zero]) | (go_at_call 177; refine Calls.mono (HN1.out _) ?_; rintro e wz ⟨rfl, hE⟩; replace S := S.ext (Keep.of_below hE); clear hE) | ((with_reducible refine tot_done ?ht ?_); (case ht => kernel_rfl)) | ((with_reducible apply wps_load S 0); (case hx | hi | hu => rfl); (case hT => decide +kernel)) | ((with_reducible apply wps_loada (T := 216) (k := 5) S 0); (case hx | hi => rfl); (case hk => exact Nat.le_of_ble_eq_true rfl); (case hT => decide +kernel))
            go_ret
            exact ⟨ret_int (HB1.out Hfit.out).symm, S.below⟩
          by_cases g53 : 7 < v
          · skip
            have hfit := (show fitsN (ask t.num j) v many = false by rw [ha]; simp [fitsN]; try omega)
            have Hfit := Lib.hid hfit
            have Hv := Lib.hid hv
            clear hfit hv
            go_wp2_with first | go_skip | ((with_reducible refine wpList_skip ?hw ?_); (case hw => with_unfolding_all rfl); simp only [Act.put, List.setIfInBounds_toArray, List.set_cons_succ, List.set_cons_zero]) | (go_at_call 177; refine Calls.mono (HN1.out _) ?_; rintro e wz ⟨rfl, hE⟩; replace S := S.ext (Keep.of_below hE); clear hE) | ((with_reducible refine tot_done ?ht ?_); (case ht => kernel_rfl)) | ((with_reducible apply wps_load S 0); (case hx | hi | hu => rfl); (case hT => decide +kernel)) | ((with_reducible apply wps_loada (T := 216) (k := 5) S 0); (case hx | hi => rfl); (case hk => exact Nat.le_of_ble_eq_true rfl); (case hT => decide +kernel))
            go_ret
            exact ⟨ret_int (HB1.out Hfit.out).symm, S.below⟩
          have hfit := (show fitsN (ask t.num j) v many = true by rw [ha]; simp [fitsN]; try omega)
          have Hfit := Lib.hid hfit
          have Hv := Lib.hid hv
          clear hfit hv
          go_wp2_with first | go_skip | ((with_reducible refine wpList_skip ?hw ?_); (case hw => with_unfolding_all rfl); simp only [Act.put, List.setIfInBounds_toArray, List.set_cons_succ, List.set_cons_zero]) | (go_at_call 177; refine Calls.mono (HN1.out _) ?_; rintro e wz ⟨rfl, hE⟩; replace S := S.ext (Keep.of_below hE); clear hE) | ((with_reducible refine tot_done ?ht ?_); (case ht => kernel_rfl)) | ((with_reducible apply wps_load S 0); (case hx | hi | hu => rfl); (case hT => decide +kernel)) | ((with_reducible apply wps_loada (T := 216) (k := 5) S 0); (case hx | hi => rfl); (case hk => exact Nat.le_of_ble_eq_true rfl); (case hT => decide +kernel))
          go_roundw
          case rel => exact ⟨j + 1, by omega, by go_num, fits_snoc Hf.out (by rw [Hv.out]; exact Hfit.out), S⟩
          case measure => first | (simp [intOf]; done) | (simp [intOf]; omega)
        · skip
          have hjs : j < ks.size := by
            rcases Nat.lt_or_ge j ks.size with h | h
            · exact h
            · rw [ByteArray.getElem?_ge' ks _ (by omega)] at hb; cases hb
          have hjs2 : (j : Int) < ks.size := by omega
          have hbt : ((ks[j]'hjs).toNat : Int) = 110 := by
            have h2 := ByteArray.getElem?_lt' ks j hjs
            rw [h2] at hb
            rw [Option.some.inj hb]; rfl
          clear hb
          have hfit := (show fitsN (ask t.num j) v many = true by rw [ha]; simp [fitsN]; try omega)
          have Hfit := Lib.hid hfit
          have Hv := Lib.hid hv
          clear hfit hv
          go_wp2_with first | go_skip | ((with_reducible refine wpList_skip ?hw ?_); (case hw => with_unfolding_all rfl); simp only [Act.put, List.setIfInBounds_toArray, List.set_cons_succ, List.set_cons_zero]) | (go_at_call 177; refine Calls.mono (HN1.out _) ?_; rintro e wz ⟨rfl, hE⟩; replace S := S.ext (Keep.of_below hE); clear hE) | ((with_reducible refine tot_done ?ht ?_); (case ht => kernel_rfl)) | ((with_reducible apply wps_load S 0); (case hx | hi | hu => rfl); (case hT => decide +kernel)) | ((with_reducible apply wps_loada (T := 216) (k := 5) S 0); (case hx | hi => rfl); (case hk => exact Nat.le_of_ble_eq_true rfl); (case hT => decide +kernel))
          go_roundw
          case rel => exact ⟨j + 1, by omega, by go_num, fits_snoc Hf.out (by rw [Hv.out]; exact Hfit.out), S⟩
          case measure => first | (simp [intOf]; done) | (simp [intOf]; omega)
        · skip
          have hjs : j < ks.size := by
            rcases Nat.lt_or_ge j ks.size with h | h
            · exact h
            · rw [ByteArray.getElem?_ge' ks _ (by omega)] at hb; cases hb
          have hjs2 : (j : Int) < ks.size := by omega
          have hbt : ((ks[j]'hjs).toNat : Int) = 112 := by
            have h2 := ByteArray.getElem?_lt' ks j hjs
            rw [h2] at hb
            rw [Option.some.inj hb]; rfl
          clear hb
          by_cases g81 : v < 0
          · skip
            have hfit := (show fitsN (ask t.num j) v many = false by rw [ha]; simp [fitsN]; try omega)
            have Hfit := Lib.hid hfit
            have Hv := Lib.hid hv
            clear hfit hv
            go_wp2_with first | go_skip | ((with_reducible refine wpList_skip ?hw ?_); (case hw => with_unfolding_all rfl); simp only [Act.put, List.setIfInBounds_toArray, List.set_cons_succ, List.set_cons_zero]) | (go_at_call 177; refine Calls.mono (HN1.out _) ?_; rintro e wz ⟨rfl, hE⟩; replace S := S.ext (Keep.of_below hE); clear hE) | ((with_reducible refine tot_done ?ht ?_); (case ht => kernel_rfl)) | ((with_reducible apply wps_load S 0); (case hx | hi | hu => rfl); (case hT => decide +kernel)) | ((with_reducible apply wps_loada (T := 216) (k := 5) S 0); (case hx | hi => rfl); (case hk => exact Nat.le_of_ble_eq_true rfl); (case hT => decide +kernel))
            go_ret
            exact ⟨ret_int (HB1.out Hfit.out).symm, S.below⟩
          by_cases g54 : many < v
          · skip
            have hfit := (show fitsN (ask t.num j) v many = false by rw [ha]; simp [fitsN]; try omega)
            have Hfit := Lib.hid hfit
            have Hv := Lib.hid hv
            clear hfit hv
            go_wp2_with first | go_skip | ((with_reducible refine wpList_skip ?hw ?_); (case hw => with_unfolding_all rfl); simp only [Act.put, List.setIfInBounds_toArray, List.set_cons_succ, List.set_cons_zero]) | (go_at_call 177; refine Calls.mono (HN1.out _) ?_; rintro e wz ⟨rfl, hE⟩; replace S := S.ext (Keep.of_below hE); clear hE) | ((with_reducible refine tot_done ?ht ?_); (case ht => kernel_rfl)) | ((with_reducible apply wps_load S 0); (case hx | hi | hu => rfl); (case hT => decide +kernel)) | ((with_reducible apply wps_loada (T := 216) (k := 5) S 0); (case hx | hi => rfl); (case hk => exact Nat.le_of_ble_eq_true rfl); (case hT => decide +kernel))
            go_ret
            exact ⟨ret_int (HB1.out Hfit.out).symm, S.below⟩
          have hfit := (show fitsN (ask t.num j) v many = true by rw [ha]; simp [fitsN]; try omega)
          have Hfit := Lib.hid hfit
          have Hv := Lib.hid hv
          clear hfit hv
          go_wp2_with first | go_skip | ((with_reducible refine wpList_skip ?hw ?_); (case hw => with_unfolding_all rfl); simp only [Act.put, List.setIfInBounds_toArray, List.set_cons_succ, List.set_cons_zero]) | (go_at_call 177; refine Calls.mono (HN1.out _) ?_; rintro e wz ⟨rfl, hE⟩; replace S := S.ext (Keep.of_below hE); clear hE) | ((with_reducible refine tot_done ?ht ?_); (case ht => kernel_rfl)) | ((with_reducible apply wps_load S 0); (case hx | hi | hu => rfl); (case hT => decide +kernel)) | ((with_reducible apply wps_loada (T := 216) (k := 5) S 0); (case hx | hi => rfl); (case hk => exact Nat.le_of_ble_eq_true rfl); (case hT => decide +kernel))
          go_roundw
          case rel => exact ⟨j + 1, by omega, by go_num, fits_snoc Hf.out (by rw [Hv.out]; exact Hfit.out), S⟩
          case measure => first | (simp [intOf]; done) | (simp [intOf]; omega)
        · skip
          have hjs : j < ks.size := by
            rcases Nat.lt_or_ge j ks.size with h | h
            · exact h
            · rw [ByteArray.getElem?_ge' ks _ (by omega)] at hb; cases hb
          have hjs2 : (j : Int) < ks.size := by omega
          have hbt : ((ks[j]'hjs).toNat : Int) = 107 := by
            have h2 := ByteArray.getElem?_lt' ks j hjs
            rw [h2] at hb
            rw [Option.some.inj hb]; rfl
          clear hb
          by_cases g81 : v < 0
          · skip
            have hfit := (show fitsN (ask t.num j) v many = false by rw [ha]; simp [fitsN]; try omega)
            have Hfit := Lib.hid hfit
            have Hv := Lib.hid hv
            clear hfit hv
            go_wp2_with first | go_skip | ((with_reducible refine wpList_skip ?hw ?_); (case hw => with_unfolding_all rfl); simp only [Act.put, List.setIfInBounds_toArray, List.set_cons_succ, List.set_cons_zero]) | (go_at_call 177; refine Calls.mono (HN1.out _) ?_; rintro e wz ⟨rfl, hE⟩; replace S := S.ext (Keep.of_below hE); clear hE) | ((with_reducible refine tot_done ?ht ?_); (case ht => kernel_rfl)) | ((with_reducible apply wps_load S 0); (case hx | hi | hu => rfl); (case hT => decide +kernel)) | ((with_reducible apply wps_loada (T := 216) (k := 5) S 0); (case hx | hi => rfl); (case hk => exact Nat.le_of_ble_eq_true rfl); (case hT => decide +kernel))
            go_ret
            exact ⟨ret_int (HB1.out Hfit.out).symm, S.below⟩
          by_cases g54 : 255 < v
          · skip
            have hfit := (show fitsN (ask t.num j) v many = false by rw [ha]; simp [fitsN]; try omega)
            have Hfit := Lib.hid hfit
            have Hv := Lib.hid hv
            clear hfit hv
            go_wp2_with first | go_skip | ((with_reducible refine wpList_skip ?hw ?_); (case hw => with_unfolding_all rfl); simp only [Act.put, List.setIfInBounds_toArray, List.set_cons_succ, List.set_cons_zero]) | (go_at_call 177; refine Calls.mono (HN1.out _) ?_; rintro e wz ⟨rfl, hE⟩; replace S := S.ext (Keep.of_below hE); clear hE) | ((with_reducible refine tot_done ?ht ?_); (case ht => kernel_rfl)) | ((with_reducible apply wps_load S 0); (case hx | hi | hu => rfl); (case hT => decide +kernel)) | ((with_reducible apply wps_loada (T := 216) (k := 5) S 0); (case hx | hi => rfl); (case hk => exact Nat.le_of_ble_eq_true rfl); (case hT => decide +kernel))
            go_ret
            exact ⟨ret_int (HB1.out Hfit.out).symm, S.below⟩
          have hfit := (show fitsN (ask t.num j) v many = true by rw [ha]; simp [fitsN]; try omega)
          have Hfit := Lib.hid hfit
          have Hv := Lib.hid hv
          clear hfit hv
          go_wp2_with first | go_skip | ((with_reducible refine wpList_skip ?hw ?_); (case hw => with_unfolding_all rfl); simp only [Act.put, List.setIfInBounds_toArray, List.set_cons_succ, List.set_cons_zero]) | (go_at_call 177; refine Calls.mono (HN1.out _) ?_; rintro e wz ⟨rfl, hE⟩; replace S := S.ext (Keep.of_below hE); clear hE) | ((with_reducible refine tot_done ?ht ?_); (case ht => kernel_rfl)) | ((with_reducible apply wps_load S 0); (case hx | hi | hu => rfl); (case hT => decide +kernel)) | ((with_reducible apply wps_loada (T := 216) (k := 5) S 0); (case hx | hi => rfl); (case hk => exact Nat.le_of_ble_eq_true rfl); (case hT => decide +kernel))
          go_roundw
          case rel => exact ⟨j + 1, by omega, by go_num, fits_snoc Hf.out (by rw [Hv.out]; exact Hfit.out), S⟩
          case measure => first | (simp [intOf]; done) | (simp [intOf]; omega)
        · have hjs2 : (ks.size : Int) ≤ j := by omega
          by_cases g0 : v = 0
          · have g0b : (v != 0) = false := by simp [g0]
            have hfit := (show fitsN (ask t.num j) v many = true by rw [ha]; simp [fitsN, g0])
            have Hfit := Lib.hid hfit
            have Hv := Lib.hid hv
            have G0 := Lib.hid g0
            clear hfit hv g0
            go_wp2_with first | go_skip | ((with_reducible refine wpList_skip ?hw ?_); (case hw => with_unfolding_all rfl); simp only [Act.put, List.setIfInBounds_toArray, List.set_cons_succ, List.set_cons_zero]) | (go_at_call 177; refine Calls.mono (HN1.out _) ?_; rintro e wz ⟨rfl, hE⟩; replace S := S.ext (Keep.of_below hE); clear hE) | ((with_reducible refine tot_done ?ht ?_); (case ht => kernel_rfl)) | ((with_reducible apply wps_load S 0); (case hx | hi | hu => rfl); (case hT => decide +kernel)) | ((with_reducible apply wps_loada (T := 216) (k := 5) S 0); (case hx | hi => rfl); (case hk => exact Nat.le_of_ble_eq_true rfl); (case hT => decide +kernel))
            go_roundw
            case rel => exact ⟨j + 1, by omega, by go_num, fits_snoc Hf.out (by rw [Hv.out]; exact Hfit.out), S⟩
            case measure => first | (simp [intOf]; done) | (simp [intOf]; omega)
          · have g0b : (v != 0) = true := by simpa using g0
            have hfit := (show fitsN (ask t.num j) v many = false by rw [ha]; simp [fitsN, g0])
            have Hfit := Lib.hid hfit
            have Hv := Lib.hid hv
            have G0 := Lib.hid g0
            clear hfit hv g0
            go_wp2_with first | go_skip | ((with_reducible refine wpList_skip ?hw ?_); (case hw => with_unfolding_all rfl); simp only [Act.put, List.setIfInBounds_toArray, List.set_cons_succ, List.set_cons_zero]) | (go_at_call 177; refine Calls.mono (HN1.out _) ?_; rintro e wz ⟨rfl, hE⟩; replace S := S.ext (Keep.of_below hE); clear hE) | ((with_reducible refine tot_done ?ht ?_); (case ht => kernel_rfl)) | ((with_reducible apply wps_load S 0); (case hx | hi | hu => rfl); (case hT => decide +kernel)) | ((with_reducible apply wps_loada (T := 216) (k := 5) S 0); (case hx | hi => rfl); (case hk => exact Nat.le_of_ble_eq_true rfl); (case hT => decide +kernel))
            go_ret
            exact ⟨ret_int (HB1.out Hfit.out).symm, S.below⟩
      · obtain rfl : j = 4 := by omega
        go_wp2_with first | go_skip | ((with_reducible refine wpList_skip ?hw ?_); (case hw => with_unfolding_all rfl); simp only [Act.put, List.setIfInBounds_toArray, List.set_cons_succ, List.set_cons_zero]) | ((with_reducible refine tot_done ?ht ?_); (case ht => kernel_rfl)) | ((with_reducible apply wps_load S 0); (case hx | hi | hu => rfl); (case hT => decide +kernel)) | ((with_reducible apply wps_loada (T := 216) (k := 5) S 0); (case hx | hi => rfl); (case hk => exact Nat.le_of_ble_eq_true rfl); (case hT => decide +kernel))
        go_ret
        exact ⟨ret_int (HOK.out Hf.out).symm, S.below⟩
  · have HE := Lib.hid (may_form (many := many) (show isOp x.op = false by simp [isOp]; omega))
    go_enter Tryz.func114, Tryz.ntmps114
    go_wp2_with first | go_skip | ((with_reducible refine wpList_skip ?hw ?_); (case hw => with_unfolding_all rfl); simp only [Act.put, List.setIfInBounds_toArray, List.set_cons_succ, List.set_cons_zero]) | ((with_reducible apply wps_boxa S); (case hx => rfl); clear S; intro bx wz S) | (go_at_call 175; refine Calls.mono (rword_not x.op h1 _) ?_; rintro e wz ⟨rfl, hE⟩; replace S := S.ext (Keep.of_below hE); clear hE) | ((with_reducible refine tot_done ?ht ?_); (case ht => kernel_rfl)) | ((with_reducible apply wps_boxa S); (case hx => rfl); clear S; intro bz wz S) | ((with_reducible apply wps_box1 (v := .int _ _) S); (case hx | h1 => rfl); clear S; intro bz wz S) | ((with_reducible apply wps_box1 (v := .bool _) S); (case hx | h1 => rfl); clear S; intro bz wz S) | ((with_reducible apply wps_box1 (v := .slice _ _ _) S); (case hx | h1 => rfl); clear S; intro bz wz S) | ((with_reducible apply wps_box1 (v := .pointer _) S); (case hx | h1 => rfl); clear S; intro bz wz S) | ((with_reducible apply wps_box1 (v := .map _) S); (case hx | h1 => rfl); clear S; intro bz wz S) | ((with_reducible apply wps_box1 (v := .string _) S); (case hx | h1 => rfl); clear S; intro bz wz S) | ((with_reducible apply wps_box1 (v := .func _ _ _) S); (case hx | h1 => rfl); clear S; intro bz wz S) | ((with_reducible apply wps_load S 0); (case hx | hi | hu => rfl); (case hT => decide +kernel)) | ((with_reducible apply wps_loada (T := 216) (k := 5) S 0); (case hx | hi => rfl); (case hk => exact Nat.le_of_ble_eq_true rfl); (case hT => decide +kernel))
    go_ret
    exact ⟨ret_int HE.out.symm, S.below⟩
end Go.Proofs.YtmpfbkfemlhekaaGreatDoor

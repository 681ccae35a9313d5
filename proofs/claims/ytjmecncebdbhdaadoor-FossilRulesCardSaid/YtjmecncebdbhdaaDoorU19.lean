import Derived.Test.YtjmecncebdbhdaaDoorU18
import Derived.Test.YtjmecncebdbhdaaDoorU04
/- The walk of slices.CompactFunc of events, by their keys. -/
namespace Go.Proofs.YtjmecncebdbhdaaDoor
open Go Go.RowKit Reg Mem

set_option maxRecDepth 100000 in
set_option maxRecDepth 100000 in
theorem zero_Ev : zeroIs Tryd.prog 52 7 (Event.cells ⟨⟨0, 0, 0, 0⟩, 0, 0, 0⟩) := ⟨_, .agg #[.int .i64 0, .int .i64 0, .int .i64 0, .int .i64 0, .int .i64 0, .int .i64 0, .int .i64 0], rfl, by kernel_rfl, by kernel_rfl, rfl, by decide⟩
theorem sizeEv (w : World) : (sizeOf 52).run Tryd.prog w = .ok 7 w := by kernel_rfl
theorem run1_calls (a b : Event) (v : Bool) (h : decide (a.key = b.key) = v) (w : World) : Calls Tryd.prog 27 #[.agg #[.int .i64 a.key.at_, .int .i64 a.key.src, .int .i64 a.key.sent, .int .i64 a.key.no, .int .i64 a.dst, .int .i64 a.kind, .int .i64 a.data], .agg #[.int .i64 b.key.at_, .int .i64 b.key.src, .int .i64 b.key.sent, .int .i64 b.key.no, .int .i64 b.dst, .int .i64 b.kind, .int .i64 b.data]] w fun e w' => e = .returned (.bool v) ∧ Below w.heap.size w w' := by
  have S := St.init (fun _ => False) w
  have HC := Lib.hid ((key_ceqs a.key b.key).trans h)
  clear h
  go_enter Tryd.func27, Tryd.ntmps27
  go_wp2_with first | ((with_reducible apply wpList_eql_agg (t := 50) (ks := [.int .i64, .int .i64, .int .i64, .int .i64]) (b := _)); (case hx | hy => rfl); (case hl | ha | hg => kernel_rfl); (case hfx | hfy => rfl); (case hb => exact HC.out)) | ((with_reducible refine tot_done ?ht ?_); (case ht => kernel_rfl)) | ((with_reducible apply wps_boxa S); (case hx => rfl); clear S; intro bz wz S) | ((with_reducible apply wps_box1 (v := .int _ _) S); (case hx | h1 => rfl); clear S; intro bz wz S) | ((with_reducible apply wps_box1 (v := .bool _) S); (case hx | h1 => rfl); clear S; intro bz wz S) | ((with_reducible apply wps_box1 (v := .slice _ _ _) S); (case hx | h1 => rfl); clear S; intro bz wz S) | ((with_reducible apply wps_box1 (v := .pointer _) S); (case hx | h1 => rfl); clear S; intro bz wz S) | ((with_reducible apply wps_box1 (v := .map _) S); (case hx | h1 => rfl); clear S; intro bz wz S) | ((with_reducible apply wps_box1 (v := .string _) S); (case hx | h1 => rfl); clear S; intro bz wz S) | ((with_reducible apply wps_box1 (v := .func _ _ _) S); (case hx | h1 => rfl); clear S; intro bz wz S) | ((with_reducible apply wps_loada (T := 50) (k := 4) S 0); (case hx | hi => rfl); (case hk => exact Nat.le_of_ble_eq_true rfl); (case hT => decide +kernel)) | ((with_reducible apply wps_loada (T := 50) (k := 4) S 1); (case hx | hi => rfl); (case hk => exact Nat.le_of_ble_eq_true rfl); (case hT => decide +kernel)) | ((with_reducible apply wps_loada (T := 50) (k := 4) S 2); (case hx | hi => rfl); (case hk => exact Nat.le_of_ble_eq_true rfl); (case hT => decide +kernel)) | ((with_reducible apply wps_loada (T := 50) (k := 4) S 3); (case hx | hi => rfl); (case hk => exact Nat.le_of_ble_eq_true rfl); (case hT => decide +kernel))
  go_ret
  exact ⟨rfl, S.below⟩
def lastKey : Option Key → List Event → Option Key
  | k, [] => k
  | _, y :: l => lastKey (some y.key) l
theorem lastKey_snoc (y : Event) : ∀ (l : List Event) (k : Option Key), lastKey k (l ++ [y]) = some y.key
  | [], _ => rfl
  | x :: l, _ => lastKey_snoc y l (some x.key)
theorem once_snoc (x : Event) : ∀ (l : List Event) (k : Option Key), onceFrom k (l ++ [x]) = onceFrom k l ++ (if lastKey k l = some x.key then [] else [x])
  | [], k => by
    show onceFrom k [x] = _
    simp only [onceFrom, lastKey, List.nil_append]
    by_cases h : k = some x.key <;> simp [h]
  | y :: l, k => by
    simp only [List.cons_append, onceFrom, lastKey]
    split
    · rename_i h; rw [once_snoc x l k, h]; by_cases h2 : lastKey (some y.key) l = some x.key <;> simp [h2]
    · rw [once_snoc x l]; rfl
theorem once_step {l : List Event} {j : Nat} {x y : Event} (hx : l[j + 1]? = some x) (hy : l[j]? = some y) : once (l.take (j + 2)) = once (l.take (j + 1)) ++ (if y.key = x.key then [] else [x]) := by
  unfold once
  rw [take_snoc hx, once_snoc, take_snoc hy, lastKey_snoc]
  simp only [Option.some.injEq]
theorem once_len (l : List Event) : (once l).length ≤ l.length := by
  have key : ∀ (l : List Event) (k : Option Key), (onceFrom k l).length ≤ l.length := by
    intro l
    induction l with
    | nil => intro k; exact Nat.le_refl _
    | cons x l ih =>
      intro k
      simp only [onceFrom]
      split
      · exact Nat.le_succ_of_le (ih k)
      · simp only [List.length_cons]; exact Nat.succ_le_succ (ih _)
  exact key l none
theorem once_sub : ∀ (l : List Event) (k : Option Key), (onceFrom k l).Sublist l
  | [], _ => List.Sublist.slnil
  | x :: l, k => by
    simp only [onceFrom]
    split
    · exact (once_sub l k).cons x
    · exact (once_sub l _).cons_cons x
def CompRel (R c : Nat) (l : List Event) (F : Nat → Prop) (w : World) (i : Value) (wr : World) : Prop :=
  ∃ k : Nat, k < l.length ∧ i = .int .i64 ((k : Int) + 1) ∧ Hid (once (l.take (k + 1)) = l.take (k + 1)) ∧ St F w wr [Own 52 Event.cells 7 (.slice (some ⟨R, 0, none⟩) l.length c) l]
def CompRel2 (R c : Nat) (l : List Event) (k : Nat) (F : Nat → Prop) (w : World) (i i2 : Value) (wr : World) : Prop :=
  ∃ (kk k2 : Nat) (m : List Event), i = .int .i64 ((kk : Int) + 1) ∧ i2 = .int .i64 ((k2 : Int) + 1) ∧ k + k2 + 2 ≤ l.length ∧ kk ≤ k + k2 ∧ Hid (m.take (kk + 1) = once (l.take (k + k2 + 2))) ∧ Hid (∀ j : Nat, kk + 1 ≤ j → m[j]? = l[j]?) ∧ m.length = l.length ∧
    St F w wr [Own 52 Event.cells 7 (.slice (some ⟨R, 0, none⟩) l.length c) m]
def CpPost (l : List Event) (F : Nat → Prop) (w : World) (e : Ending) (w' : World) : Prop :=
  ∃ ad c, e = .returned (.slice ad (once l).length c) ∧ St F w w' [Own 52 Event.cells 7 (.slice ad (once l).length c) (once l)]
set_option maxRecDepth 100000 in
set_option maxHeartbeats 8000000 in
theorem compact_calls (v : Value) (l : List Event) (w : World) (F : Nat → Prop) (S0 : St F w w [Own 52 Event.cells 7 v l]) (hn : l.length ≤ 65536) :
    Calls Tryd.prog 26 #[v, .func (.func 27) #[] #[]] w (CpPost l F w) := by
  have S := S0
  clear S0
  obtain ⟨ad, c, rfl, _⟩ := (S.ownsl ecells 0 rfl).elim fun _ h => h.form
  by_cases h2 : l.length < 2
  · have ho : once l = l := by
      match l, h2 with
      | [], _ => rfl
      | [x], _ => rfl
      | x :: y :: l, h => exact absurd h (by simp)
    have h2i : (l.length : Int) < 2 := by omega
    go_enter Tryd.func26, Tryd.ntmps26
    go_wp2_with first | ((with_reducible refine tot_done ?ht ?_); (case ht => kernel_rfl)) | ((with_reducible apply wps_text S); (case hm => kernel_rfl); (case hB => decide +kernel); clear S; intro wz S) | ((with_reducible apply wps_loada (T := 52) (k := 7) S 0); (case hx | hi => rfl); (case hk => exact Nat.le_of_ble_eq_true rfl); (case hT => decide +kernel)) | ((with_reducible apply wps_loada (T := 52) (k := 7) S 1); (case hx | hi => rfl); (case hk => exact Nat.le_of_ble_eq_true rfl); (case hT => decide +kernel)) | ((with_reducible apply wps_loada (T := 52) (k := 7) S 2); (case hx | hi => rfl); (case hk => exact Nat.le_of_ble_eq_true rfl); (case hT => decide +kernel)) | ((with_reducible apply wps_loada (T := 52) (k := 7) S 3); (case hx | hi => rfl); (case hk => exact Nat.le_of_ble_eq_true rfl); (case hT => decide +kernel))
    go_ret
    exact ⟨ad, c, by rw [ho]; rfl, by rw [ho]; exact S⟩
  · obtain ⟨R, c', e⟩ := own_hd 0 S rfl (by omega)
    simp only [Value.slice.injEq] at e
    obtain ⟨rfl, hq, rfl⟩ := e
    clear hq
    have hl2 : ¬ ((l.length : Int) < 2) := by omega
    have hlc : l.length ≤ c := by
      obtain ⟨F1, h1⟩ := S.get (i := 0) rfl
      obtain ⟨cur, hO, _⟩ := own_at h1
      exact hO.le
    go_enter Tryd.func26, Tryd.ntmps26
    go_wp2_with first | ((with_reducible refine tot_done ?ht ?_); (case ht => kernel_rfl)) | ((with_reducible apply wps_text S); (case hm => kernel_rfl); (case hB => decide +kernel); clear S; intro wz S) | ((with_reducible apply wps_loada (T := 52) (k := 7) S 0); (case hx | hi => rfl); (case hk => exact Nat.le_of_ble_eq_true rfl); (case hT => decide +kernel)) | ((with_reducible apply wps_loada (T := 52) (k := 7) S 1); (case hx | hi => rfl); (case hk => exact Nat.le_of_ble_eq_true rfl); (case hT => decide +kernel)) | ((with_reducible apply wps_loada (T := 52) (k := 7) S 2); (case hx | hi => rfl); (case hk => exact Nat.le_of_ble_eq_true rfl); (case hT => decide +kernel)) | ((with_reducible apply wps_loada (T := 52) (k := 7) S 3); (case hx | hi => rfl); (case hk => exact Nat.le_of_ble_eq_true rfl); (case hT => decide +kernel))
    go_loopw [5] (fun i wr => CompRel R c l F w i wr) (fun i _ => l.length - (intOf i).toNat)
    case atStart =>
      refine ⟨0, by omega, rfl, ?_, S⟩
      match l, h2 with
      | [], h => simp at h
      | x :: l, _ => exact (rfl : once [x] = [x])
    case round =>
      clear S
      obtain ⟨k, hk, rfl, HO, S⟩ := hrel
      by_cases hlt : k + 1 < l.length
      · obtain ⟨x, hx⟩ : ∃ x, l[k + 1]? = some x := ⟨_, List.getElem?_eq_getElem hlt⟩
        obtain ⟨y, hy⟩ : ∃ y, l[k]? = some y := ⟨_, List.getElem?_eq_getElem hk⟩
        have HS := Lib.hid (once_step hx hy)
        have hlt2 : (k : Int) + 1 < l.length := by omega
        have hlt2b : (k : Int) < l.length := by omega
        by_cases hkk : x.key = y.key
        · have HR := Lib.hid (run1_calls x y true (by simp [hkk]))
          have HS2 : Hid (l.take (k + 1) = once (l.take (k + 0 + 2))) := Lib.hid (by rw [Nat.add_zero, HS.out, if_pos hkk.symm, List.append_nil, HO.out])
          clear hkk HS HO
          have Hx := Lib.hid hx
          have Hy := Lib.hid hy
          clear hx hy
          obtain ⟨q, HQ⟩ : ∃ q, Hid (l.length = k + 1 + q) := ⟨l.length - (k + 1), Lib.hid (by omega)⟩
          have hq0 : 0 < q := by have := HQ.out; omega
          go_wp2_with first | ((with_reducible refine tot_done ?ht ?_); (case ht => kernel_rfl)) | ((with_reducible apply wps_loada (T := 52) (k := 7) S 0); (case hx | hi => rfl); (case hk => exact Nat.le_of_ble_eq_true rfl); (case hT => decide +kernel)) | ((with_reducible apply wps_loada (T := 52) (k := 7) S 1); (case hx | hi => rfl); (case hk => exact Nat.le_of_ble_eq_true rfl); (case hT => decide +kernel)) | ((with_reducible apply wps_loada (T := 52) (k := 7) S 2); (case hx | hi => rfl); (case hk => exact Nat.le_of_ble_eq_true rfl); (case hT => decide +kernel)) | ((with_reducible apply wps_loada (T := 52) (k := 7) S 3); (case hx | hi => rfl); (case hk => exact Nat.le_of_ble_eq_true rfl); (case hT => decide +kernel))
          (refine wp_region_w (soft := [0, 1, 2, 3, 4, 5, 6, 7, 8, 9, 10]) S ?hm ?hB ?_); (case hm => kernel_rfl); (case hB => decide +kernel); clear S
          iterate 11
            (with_reducible apply softs_cons)
            (case hw =>
              (with_reducible apply soft_of); (case hi => rfl)
              intro T wz S
              simp only [List.cons_append, List.nil_append] at S
              go_wp2_with first | ((with_reducible apply wps_loada_own ecells S 0 (hj := Hx.out) (q := 0) (vs := [.int .i64 x.key.at_, .int .i64 x.key.src, .int .i64 x.key.sent, .int .i64 x.key.no, .int .i64 x.dst, .int .i64 x.kind, .int .i64 x.data]) (m := 7)); (case hx | hi => rfl); (case hn => omega); (case hm | hv => rfl); (case hT => decide +kernel)) | ((with_reducible apply wps_loada_own ecells S 0 (hj := Hy.out) (q := 0) (vs := [.int .i64 y.key.at_, .int .i64 y.key.src, .int .i64 y.key.sent, .int .i64 y.key.no, .int .i64 y.dst, .int .i64 y.kind, .int .i64 y.data]) (m := 7)); (case hx | hi => rfl); (case hn => omega); (case hm | hv => rfl); (case hT => decide +kernel)) | (go_at_call 27; refine Calls.mono (HR.out _) ?_; rintro e wz ⟨rfl, hE⟩; replace S := S.ext (Keep.of_below hE); clear hE) | ((with_reducible refine tot_done ?ht ?_); (case ht => kernel_rfl)) | ((with_reducible apply wps_loada (T := 52) (k := 7) S 0); (case hx | hi => rfl); (case hk => exact Nat.le_of_ble_eq_true rfl); (case hT => decide +kernel)) | ((with_reducible apply wps_loada (T := 52) (k := 7) S 1); (case hx | hi => rfl); (case hk => exact Nat.le_of_ble_eq_true rfl); (case hT => decide +kernel)) | ((with_reducible apply wps_loada (T := 52) (k := 7) S 2); (case hx | hi => rfl); (case hk => exact Nat.le_of_ble_eq_true rfl); (case hT => decide +kernel)) | ((with_reducible apply wps_loada (T := 52) (k := 7) S 3); (case hx | hi => rfl); (case hk => exact Nat.le_of_ble_eq_true rfl); (case hT => decide +kernel))
              exact ⟨rfl, S⟩)
            (case hs => exact ⟨_, rfl, by kernel_rfl⟩)
          refine softs_nil ?_
          (with_reducible apply W_done); (case hn => rfl); (case hr => decide +kernel)
          intro wz S
          simp only [List.append_nil] at S
          go_wp2_with first | ((with_reducible apply wps_tail Tryd.underlying29 sizeEv (m := q) (l := k + 1)); (case hx | hlo => rfl); (case hm => exact HQ.out); (case h1 => exact hq0); (case h2 => exact hlc)) | ((with_reducible refine tot_done ?ht ?_); (case ht => kernel_rfl)) | ((with_reducible apply wps_text S); (case hm => kernel_rfl); (case hB => decide +kernel); clear S; intro wz S) | ((with_reducible apply wps_loada (T := 52) (k := 7) S 0); (case hx | hi => rfl); (case hk => exact Nat.le_of_ble_eq_true rfl); (case hT => decide +kernel)) | ((with_reducible apply wps_loada (T := 52) (k := 7) S 1); (case hx | hi => rfl); (case hk => exact Nat.le_of_ble_eq_true rfl); (case hT => decide +kernel)) | ((with_reducible apply wps_loada (T := 52) (k := 7) S 2); (case hx | hi => rfl); (case hk => exact Nat.le_of_ble_eq_true rfl); (case hT => decide +kernel)) | ((with_reducible apply wps_loada (T := 52) (k := 7) S 3); (case hx | hi => rfl); (case hk => exact Nat.le_of_ble_eq_true rfl); (case hT => decide +kernel))
          go_loopw [5, 7] (fun i i2 wr => CompRel2 R c l k F w i i2 wr) (fun _ i2 _ => l.length - (intOf i2).toNat)
          case atStart => exact ⟨k, 0, l, rfl, rfl, by omega, by omega, HS2, Lib.hid (fun _ _ => rfl), rfl, S⟩
          case round =>
            clear S
            obtain ⟨kk, k2, m, rfl, rfl, hb, hle, HM, HJ, hml, S⟩ := hrel
            have HML0 := Lib.hid hml
            by_cases hlt3 : k + k2 + 2 < l.length
            · obtain ⟨x2, hx2⟩ : ∃ x, l[k + k2 + 1 + 1]? = some x := ⟨_, List.getElem?_eq_getElem (by omega)⟩
              obtain ⟨y2, hy2⟩ : ∃ x, l[k + k2 + 1]? = some x := ⟨_, List.getElem?_eq_getElem (by omega)⟩
              obtain ⟨z2, hz2⟩ : ∃ x, m[kk + 1]? = some x := ⟨_, List.getElem?_eq_getElem (by omega)⟩
              have HS3 := Lib.hid (once_step hx2 hy2)
              have HMX : Hid (m[k + k2 + 1 + 1]? = some x2) := Lib.hid ((HJ.out _ (by omega)).trans hx2)
              have HMY : Hid (m[k + k2 + 1]? = some y2) := Lib.hid ((HJ.out _ (by omega)).trans hy2)
              have hlt4 : (k2 : Int) + 1 < q := by have := HQ.out; omega
              have hlt4b : (k2 : Int) < q := by omega
              have hlt5 : k2 + 1 < q := by omega
              by_cases hke : x2.key = y2.key
              · have HR2 := Lib.hid (run1_calls x2 y2 true (by simp [hke]))
                have HM2 : Hid (m.take (kk + 1) = once (l.take (k + (k2 + 1) + 2))) := Lib.hid (by
                  have := HS3.out
                  rw [if_pos hke.symm, List.append_nil] at this
                  rw [show k + (k2 + 1) + 2 = k + k2 + 1 + 2 by omega, this]; exact HM.out)
                clear hx2 hy2 hke HS3 hz2 hml
                go_wp2_with first | ((with_reducible refine tot_done ?ht ?_); (case ht => kernel_rfl)) | ((with_reducible apply wps_loada (T := 52) (k := 7) S 0); (case hx | hi => rfl); (case hk => exact Nat.le_of_ble_eq_true rfl); (case hT => decide +kernel)) | ((with_reducible apply wps_loada (T := 52) (k := 7) S 1); (case hx | hi => rfl); (case hk => exact Nat.le_of_ble_eq_true rfl); (case hT => decide +kernel)) | ((with_reducible apply wps_loada (T := 52) (k := 7) S 2); (case hx | hi => rfl); (case hk => exact Nat.le_of_ble_eq_true rfl); (case hT => decide +kernel)) | ((with_reducible apply wps_loada (T := 52) (k := 7) S 3); (case hx | hi => rfl); (case hk => exact Nat.le_of_ble_eq_true rfl); (case hT => decide +kernel))
                (refine wp_region_w (soft := [0, 1, 2, 3, 4, 5, 6, 7, 8, 9, 10, 11]) S ?hm ?hB ?_); (case hm => kernel_rfl); (case hB => decide +kernel); clear S
                iterate 12
                  (with_reducible apply softs_cons)
                  (case hw =>
                    (with_reducible apply soft_of); (case hi => rfl)
                    intro T wz S
                    simp only [List.cons_append, List.nil_append] at S
                    go_wp2_with first | ((with_reducible apply wps_loada_own ecells S 0 (hj := HMX.out) (q := 0) (vs := [.int .i64 x2.key.at_, .int .i64 x2.key.src, .int .i64 x2.key.sent, .int .i64 x2.key.no, .int .i64 x2.dst, .int .i64 x2.kind, .int .i64 x2.data]) (m := 7)); (case hx | hi => rfl); (case hn => omega); (case hm | hv => rfl); (case hT => decide +kernel)) | ((with_reducible apply wps_loada_own ecells S 0 (hj := HMY.out) (q := 0) (vs := [.int .i64 y2.key.at_, .int .i64 y2.key.src, .int .i64 y2.key.sent, .int .i64 y2.key.no, .int .i64 y2.dst, .int .i64 y2.kind, .int .i64 y2.data]) (m := 7)); (case hx | hi => rfl); (case hn => omega); (case hm | hv => rfl); (case hT => decide +kernel)) | (go_at_call 27; refine Calls.mono (HR2.out _) ?_; rintro e wz ⟨rfl, hE⟩; replace S := S.ext (Keep.of_below hE); clear hE) | ((with_reducible refine tot_done ?ht ?_); (case ht => kernel_rfl)) | ((with_reducible apply wps_loada (T := 52) (k := 7) S 0); (case hx | hi => rfl); (case hk => exact Nat.le_of_ble_eq_true rfl); (case hT => decide +kernel)) | ((with_reducible apply wps_loada (T := 52) (k := 7) S 1); (case hx | hi => rfl); (case hk => exact Nat.le_of_ble_eq_true rfl); (case hT => decide +kernel)) | ((with_reducible apply wps_loada (T := 52) (k := 7) S 2); (case hx | hi => rfl); (case hk => exact Nat.le_of_ble_eq_true rfl); (case hT => decide +kernel)) | ((with_reducible apply wps_loada (T := 52) (k := 7) S 3); (case hx | hi => rfl); (case hk => exact Nat.le_of_ble_eq_true rfl); (case hT => decide +kernel))
                    exact ⟨rfl, S⟩)
                  (case hs => exact ⟨_, rfl, by kernel_rfl⟩)
                refine softs_nil ?_
                (with_reducible apply W_done); (case hn => rfl); (case hr => decide +kernel)
                intro wz S
                simp only [List.append_nil] at S
                go_wp2_with first | ((with_reducible refine tot_done ?ht ?_); (case ht => kernel_rfl)) | ((with_reducible apply wps_text S); (case hm => kernel_rfl); (case hB => decide +kernel); clear S; intro wz S) | ((with_reducible apply wps_loada (T := 52) (k := 7) S 0); (case hx | hi => rfl); (case hk => exact Nat.le_of_ble_eq_true rfl); (case hT => decide +kernel)) | ((with_reducible apply wps_loada (T := 52) (k := 7) S 1); (case hx | hi => rfl); (case hk => exact Nat.le_of_ble_eq_true rfl); (case hT => decide +kernel)) | ((with_reducible apply wps_loada (T := 52) (k := 7) S 2); (case hx | hi => rfl); (case hk => exact Nat.le_of_ble_eq_true rfl); (case hT => decide +kernel)) | ((with_reducible apply wps_loada (T := 52) (k := 7) S 3); (case hx | hi => rfl); (case hk => exact Nat.le_of_ble_eq_true rfl); (case hT => decide +kernel))
                go_roundw
                case rel => exact ⟨kk, k2 + 1, m, rfl, by go_num, by omega, by omega, HM2, HJ, HML0.out, S⟩
                case measure => simp [intOf]; omega
              · have HR2 := Lib.hid (run1_calls x2 y2 false (by simp [hke]))
                have HM2 : Hid ((m.set (kk + 1) x2).take (kk + 1 + 1) = once (l.take (k + (k2 + 1) + 2))) := Lib.hid (by
                  have := HS3.out
                  rw [if_neg (Ne.symm hke)] at this
                  rw [show k + (k2 + 1) + 2 = k + k2 + 1 + 2 by omega, this, ← show m.take (kk + 1) = once (l.take (k + k2 + 1 + 1)) from HM.out, take_snoc (x := x2) (List.getElem?_set_self (by omega)), List.take_set_of_le (Nat.le_refl _)])
                have HJ2 : Hid (∀ j : Nat, kk + 1 + 1 ≤ j → (m.set (kk + 1) x2)[j]? = l[j]?) := Lib.hid (fun j hj => by rw [List.getElem?_set_ne (by omega)]; exact HJ.out j (by omega))
                have HML2 : Hid ((m.set (kk + 1) x2).length = l.length) := Lib.hid (by rw [List.length_set]; exact hml)
                have HZ := Lib.hid hz2
                clear hx2 hy2 hke HS3 hz2 hml
                go_wp2_with first | ((with_reducible refine tot_done ?ht ?_); (case ht => kernel_rfl)) | ((with_reducible apply wps_loada (T := 52) (k := 7) S 0); (case hx | hi => rfl); (case hk => exact Nat.le_of_ble_eq_true rfl); (case hT => decide +kernel)) | ((with_reducible apply wps_loada (T := 52) (k := 7) S 1); (case hx | hi => rfl); (case hk => exact Nat.le_of_ble_eq_true rfl); (case hT => decide +kernel)) | ((with_reducible apply wps_loada (T := 52) (k := 7) S 2); (case hx | hi => rfl); (case hk => exact Nat.le_of_ble_eq_true rfl); (case hT => decide +kernel)) | ((with_reducible apply wps_loada (T := 52) (k := 7) S 3); (case hx | hi => rfl); (case hk => exact Nat.le_of_ble_eq_true rfl); (case hT => decide +kernel))
                (refine wp_region_w (soft := [0, 1, 2, 3, 4, 5, 6, 7, 8, 9, 10, 11]) S ?hm ?hB ?_); (case hm => kernel_rfl); (case hB => decide +kernel); clear S
                iterate 12
                  (with_reducible apply softs_cons)
                  (case hw =>
                    (with_reducible apply soft_of); (case hi => rfl)
                    intro T wz S
                    simp only [List.cons_append, List.nil_append] at S
                    go_wp2_with first | ((with_reducible apply wps_loada_own ecells S 0 (hj := HMX.out) (q := 0) (vs := [.int .i64 x2.key.at_, .int .i64 x2.key.src, .int .i64 x2.key.sent, .int .i64 x2.key.no, .int .i64 x2.dst, .int .i64 x2.kind, .int .i64 x2.data]) (m := 7)); (case hx | hi => rfl); (case hn => omega); (case hm | hv => rfl); (case hT => decide +kernel)) | ((with_reducible apply wps_loada_own ecells S 0 (hj := HMY.out) (q := 0) (vs := [.int .i64 y2.key.at_, .int .i64 y2.key.src, .int .i64 y2.key.sent, .int .i64 y2.key.no, .int .i64 y2.dst, .int .i64 y2.kind, .int .i64 y2.data]) (m := 7)); (case hx | hi => rfl); (case hn => omega); (case hm | hv => rfl); (case hT => decide +kernel)) | (go_at_call 27; refine Calls.mono (HR2.out _) ?_; rintro e wz ⟨rfl, hE⟩; replace S := S.ext (Keep.of_below hE); clear hE) | ((with_reducible refine tot_done ?ht ?_); (case ht => kernel_rfl)) | ((with_reducible apply wps_loada (T := 52) (k := 7) S 0); (case hx | hi => rfl); (case hk => exact Nat.le_of_ble_eq_true rfl); (case hT => decide +kernel)) | ((with_reducible apply wps_loada (T := 52) (k := 7) S 1); (case hx | hi => rfl); (case hk => exact Nat.le_of_ble_eq_true rfl); (case hT => decide +kernel)) | ((with_reducible apply wps_loada (T := 52) (k := 7) S 2); (case hx | hi => rfl); (case hk => exact Nat.le_of_ble_eq_true rfl); (case hT => decide +kernel)) | ((with_reducible apply wps_loada (T := 52) (k := 7) S 3); (case hx | hi => rfl); (case hk => exact Nat.le_of_ble_eq_true rfl); (case hT => decide +kernel))
                    exact ⟨rfl, S⟩)
                  (case hs => exact ⟨_, rfl, by kernel_rfl⟩)
                refine softs_nil ?_
                (with_reducible apply W_done); (case hn => rfl); (case hr => decide +kernel)
                intro wz S
                simp only [List.append_nil] at S
                go_wp2_with first | ((with_reducible apply wps_loada_own ecells S 0 (hj := HMX.out) (q := 0) (vs := [.int .i64 x2.key.at_, .int .i64 x2.key.src, .int .i64 x2.key.sent, .int .i64 x2.key.no, .int .i64 x2.dst, .int .i64 x2.kind, .int .i64 x2.data]) (m := 7)); (case hx | hi => rfl); (case hn => omega); (case hm | hv => rfl); (case hT => decide +kernel)) | ((with_reducible apply wps_store_owna ecells S 0 (hj := HZ.out) (e' := x2) (q := 0) (vs := [.int .i64 x2.key.at_, .int .i64 x2.key.src, .int .i64 x2.key.sent, .int .i64 x2.key.no, .int .i64 x2.dst, .int .i64 x2.kind, .int .i64 x2.data]) (m := 7)); (case hx => rfl); (case hn => omega); (case hi | hy | hm | h1 | he => rfl); (case hq => exact Nat.le_of_ble_eq_true rfl); (case hT => decide +kernel); clear S; intro wz S; simp only [List.set_cons_zero] at S) | ((with_reducible refine tot_done ?ht ?_); (case ht => kernel_rfl)) | ((with_reducible apply wps_text S); (case hm => kernel_rfl); (case hB => decide +kernel); clear S; intro wz S) | ((with_reducible apply wps_loada (T := 52) (k := 7) S 0); (case hx | hi => rfl); (case hk => exact Nat.le_of_ble_eq_true rfl); (case hT => decide +kernel)) | ((with_reducible apply wps_loada (T := 52) (k := 7) S 1); (case hx | hi => rfl); (case hk => exact Nat.le_of_ble_eq_true rfl); (case hT => decide +kernel)) | ((with_reducible apply wps_loada (T := 52) (k := 7) S 2); (case hx | hi => rfl); (case hk => exact Nat.le_of_ble_eq_true rfl); (case hT => decide +kernel)) | ((with_reducible apply wps_loada (T := 52) (k := 7) S 3); (case hx | hi => rfl); (case hk => exact Nat.le_of_ble_eq_true rfl); (case hT => decide +kernel))
                go_roundw
                case rel => exact ⟨kk + 1, k2 + 1, m.set (kk + 1) x2, by go_num, by go_num, by omega, by omega, HM2, HJ2, HML2.out, S⟩
                case measure => simp [intOf]; omega
            · have hend : k + k2 + 2 = l.length := by omega
              obtain ⟨q2, HQ2⟩ : ∃ q, Hid (l.length = kk + 1 + q) := ⟨l.length - (kk + 1), Lib.hid (by omega)⟩
              have hq20 : 0 < q2 := by have := HQ2.out; omega
              have HO : Hid (once l = m.take (kk + 1)) := Lib.hid (by rw [HM.out, hend, List.take_length])
              have hge4 : ¬ (k2 : Int) + 1 < q := by have := HQ.out; omega
              have HML : Hid (m.length = kk + 1 + q2) := Lib.hid (hml.trans HQ2.out)
              have hkc : kk + 1 ≤ l.length := by omega
              have HOL : Hid ((once l).length = kk + 1) := Lib.hid (by rw [HO.out, List.length_take, HML.out]; omega)
              have HTT : Hid ((m.take (kk + 1) ++ List.replicate q2 (⟨⟨0, 0, 0, 0⟩, 0, 0, 0⟩ : Event)).take (kk + 1) = once l) := Lib.hid (by
                rw [HO.out, List.take_left' (by rw [List.length_take, HML.out]; omega)])
              clear hend hml
              go_wp2_with first | ((with_reducible apply wps_tail Tryd.underlying29 sizeEv (m := q2) (l := kk + 1)); (case hx | hlo => rfl); (case hm => exact HQ2.out); (case h1 => exact hq20); (case h2 => exact hlc)) | ((with_reducible apply wps_clearTail elem_Ev ecells eone ⟨⟨0, 0, 0, 0⟩, 0, 0, 0⟩ zero_Ev S 0 (m := kk + 1) (q := q2)); (case hx | hi | ho => rfl); (case hm => exact HML.out); (case h0 => exact hq20); clear S; intro wz S; simp only [List.set_cons_zero] at S) | ((with_reducible apply wps_cutown ecells Tryd.underlying29 sizeEv S 0 (u := kk + 1)); (case hx | hi | hu => rfl); (case h1 => rw [List.length_append, List.length_take, HML.out]; omega); clear S; intro S; simp only [List.set_cons_zero] at S) | ((with_reducible refine tot_done ?ht ?_); (case ht => kernel_rfl)) | ((with_reducible apply wps_text S); (case hm => kernel_rfl); (case hB => decide +kernel); clear S; intro wz S) | ((with_reducible apply wps_loada (T := 52) (k := 7) S 0); (case hx | hi => rfl); (case hk => exact Nat.le_of_ble_eq_true rfl); (case hT => decide +kernel)) | ((with_reducible apply wps_loada (T := 52) (k := 7) S 1); (case hx | hi => rfl); (case hk => exact Nat.le_of_ble_eq_true rfl); (case hT => decide +kernel)) | ((with_reducible apply wps_loada (T := 52) (k := 7) S 2); (case hx | hi => rfl); (case hk => exact Nat.le_of_ble_eq_true rfl); (case hT => decide +kernel)) | ((with_reducible apply wps_loada (T := 52) (k := 7) S 3); (case hx | hi => rfl); (case hk => exact Nat.le_of_ble_eq_true rfl); (case hT => decide +kernel))
              go_ret
              refine ⟨_, _, by rw [HOL.out]; rfl, ?_⟩
              rw [HOL.out]
              rw [HTT.out] at S
              exact S
        · have HR := Lib.hid (run1_calls x y false (by simp [hkk]))
          have HO2 : Hid (once (l.take (k + 1 + 1)) = l.take (k + 1 + 1)) := Lib.hid (by
            have := HS.out
            rw [if_neg (Ne.symm hkk), HO.out, ← take_snoc hx] at this
            exact this)
          clear hkk HS HO
          have Hx := Lib.hid hx
          have Hy := Lib.hid hy
          clear hx hy
          go_wp2_with first | ((with_reducible refine tot_done ?ht ?_); (case ht => kernel_rfl)) | ((with_reducible apply wps_loada (T := 52) (k := 7) S 0); (case hx | hi => rfl); (case hk => exact Nat.le_of_ble_eq_true rfl); (case hT => decide +kernel)) | ((with_reducible apply wps_loada (T := 52) (k := 7) S 1); (case hx | hi => rfl); (case hk => exact Nat.le_of_ble_eq_true rfl); (case hT => decide +kernel)) | ((with_reducible apply wps_loada (T := 52) (k := 7) S 2); (case hx | hi => rfl); (case hk => exact Nat.le_of_ble_eq_true rfl); (case hT => decide +kernel)) | ((with_reducible apply wps_loada (T := 52) (k := 7) S 3); (case hx | hi => rfl); (case hk => exact Nat.le_of_ble_eq_true rfl); (case hT => decide +kernel))
          (refine wp_region_w (soft := [0, 1, 2, 3, 4, 5, 6, 7, 8, 9, 10]) S ?hm ?hB ?_); (case hm => kernel_rfl); (case hB => decide +kernel); clear S
          iterate 11
            (with_reducible apply softs_cons)
            (case hw =>
              (with_reducible apply soft_of); (case hi => rfl)
              intro T wz S
              simp only [List.cons_append, List.nil_append] at S
              go_wp2_with first | ((with_reducible apply wps_loada_own ecells S 0 (hj := Hx.out) (q := 0) (vs := [.int .i64 x.key.at_, .int .i64 x.key.src, .int .i64 x.key.sent, .int .i64 x.key.no, .int .i64 x.dst, .int .i64 x.kind, .int .i64 x.data]) (m := 7)); (case hx | hi => rfl); (case hn => omega); (case hm | hv => rfl); (case hT => decide +kernel)) | ((with_reducible apply wps_loada_own ecells S 0 (hj := Hy.out) (q := 0) (vs := [.int .i64 y.key.at_, .int .i64 y.key.src, .int .i64 y.key.sent, .int .i64 y.key.no, .int .i64 y.dst, .int .i64 y.kind, .int .i64 y.data]) (m := 7)); (case hx | hi => rfl); (case hn => omega); (case hm | hv => rfl); (case hT => decide +kernel)) | (go_at_call 27; refine Calls.mono (HR.out _) ?_; rintro e wz ⟨rfl, hE⟩; replace S := S.ext (Keep.of_below hE); clear hE) | ((with_reducible refine tot_done ?ht ?_); (case ht => kernel_rfl)) | ((with_reducible apply wps_loada (T := 52) (k := 7) S 0); (case hx | hi => rfl); (case hk => exact Nat.le_of_ble_eq_true rfl); (case hT => decide +kernel)) | ((with_reducible apply wps_loada (T := 52) (k := 7) S 1); (case hx | hi => rfl); (case hk => exact Nat.le_of_ble_eq_true rfl); (case hT => decide +kernel)) | ((with_reducible apply wps_loada (T := 52) (k := 7) S 2); (case hx | hi => rfl); (case hk => exact Nat.le_of_ble_eq_true rfl); (case hT => decide +kernel)) | ((with_reducible apply wps_loada (T := 52) (k := 7) S 3); (case hx | hi => rfl); (case hk => exact Nat.le_of_ble_eq_true rfl); (case hT => decide +kernel))
              exact ⟨rfl, S⟩)
            (case hs => exact ⟨_, rfl, by kernel_rfl⟩)
          refine softs_nil ?_
          (with_reducible apply W_done); (case hn => rfl); (case hr => decide +kernel)
          intro wz S
          simp only [List.append_nil] at S
          go_wp2_with first | ((with_reducible refine tot_done ?ht ?_); (case ht => kernel_rfl)) | ((with_reducible apply wps_text S); (case hm => kernel_rfl); (case hB => decide +kernel); clear S; intro wz S) | ((with_reducible apply wps_loada (T := 52) (k := 7) S 0); (case hx | hi => rfl); (case hk => exact Nat.le_of_ble_eq_true rfl); (case hT => decide +kernel)) | ((with_reducible apply wps_loada (T := 52) (k := 7) S 1); (case hx | hi => rfl); (case hk => exact Nat.le_of_ble_eq_true rfl); (case hT => decide +kernel)) | ((with_reducible apply wps_loada (T := 52) (k := 7) S 2); (case hx | hi => rfl); (case hk => exact Nat.le_of_ble_eq_true rfl); (case hT => decide +kernel)) | ((with_reducible apply wps_loada (T := 52) (k := 7) S 3); (case hx | hi => rfl); (case hk => exact Nat.le_of_ble_eq_true rfl); (case hT => decide +kernel))
          go_roundw
          case rel => exact ⟨k + 1, hlt, by go_num, HO2, S⟩
          case measure => simp [intOf]; omega
      · obtain hke : k + 1 = l.length := by omega
        have HOL : Hid (once l = l) := Lib.hid (by have := HO.out; rw [hke, List.take_length] at this; exact this)
        have hge : ¬ (k : Int) + 1 < l.length := by omega
        clear hke
        go_wp2_with first | ((with_reducible refine tot_done ?ht ?_); (case ht => kernel_rfl)) | ((with_reducible apply wps_text S); (case hm => kernel_rfl); (case hB => decide +kernel); clear S; intro wz S) | ((with_reducible apply wps_loada (T := 52) (k := 7) S 0); (case hx | hi => rfl); (case hk => exact Nat.le_of_ble_eq_true rfl); (case hT => decide +kernel)) | ((with_reducible apply wps_loada (T := 52) (k := 7) S 1); (case hx | hi => rfl); (case hk => exact Nat.le_of_ble_eq_true rfl); (case hT => decide +kernel)) | ((with_reducible apply wps_loada (T := 52) (k := 7) S 2); (case hx | hi => rfl); (case hk => exact Nat.le_of_ble_eq_true rfl); (case hT => decide +kernel)) | ((with_reducible apply wps_loada (T := 52) (k := 7) S 3); (case hx | hi => rfl); (case hk => exact Nat.le_of_ble_eq_true rfl); (case hT => decide +kernel))
        go_ret
        exact ⟨_, _, by rw [HOL.out]; rfl, by rw [HOL.out]; exact S⟩
end Go.Proofs.YtjmecncebdbhdaaDoor

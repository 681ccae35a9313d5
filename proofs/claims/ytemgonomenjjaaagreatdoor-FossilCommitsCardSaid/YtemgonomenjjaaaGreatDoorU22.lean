import Derived.Test.YtemgonomenjjaaaGreatDoorU17
import Derived.Test.YtemgonomenjjaaaGreatDoorU18
import Derived.Test.YtemgonomenjjaaaGreatDoorU04
import Derived.Test.YtemgonomenjjaaaGreatDoorProg
import Derived.Shelf.SlLaysF0
import Derived.KernelRfl
import Derived.Test.YtemgonomenjjaaaGreatDoorU14
import Derived.Shelf.SlSortCmp.NoneTotal
import Derived.Test.YtemgonomenjjaaaGreatDoorU09
/- The walk of slices.CompactFunc of events, by their keys. -/
namespace Go.Proofs.YtemgonomenjjaaaGreatDoor
open Go Go.RowKit Reg Mem

set_option maxRecDepth 100000 in
set_option maxRecDepth 100000 in
theorem zero_Ev : zeroIs Tryz.prog 78 7 (Event.cells ⟨⟨0, 0, 0, 0⟩, 0, 0, 0⟩) := ⟨_, .agg #[.int .i64 0, .int .i64 0, .int .i64 0, .int .i64 0, .int .i64 0, .int .i64 0, .int .i64 0], rfl, by kernel_rfl, by kernel_rfl, rfl, by decide⟩
theorem sizeEv (w : World) : (sizeOf 78).run Tryz.prog w = .ok 7 w := by kernel_rfl
theorem run1_calls (a b : Event) (v : Bool) (h : decide (a.key = b.key) = v) (w : World) : Calls Tryz.prog 35 #[.agg #[.int .i64 a.key.at_, .int .i64 a.key.src, .int .i64 a.key.sent, .int .i64 a.key.no, .int .i64 a.dst, .int .i64 a.kind, .int .i64 a.data], .agg #[.int .i64 b.key.at_, .int .i64 b.key.src, .int .i64 b.key.sent, .int .i64 b.key.no, .int .i64 b.dst, .int .i64 b.kind, .int .i64 b.data]] w fun e w' => e = .returned (.bool v) ∧ Below w.heap.size w w' := by
  have S := St.init (fun _ => False) w
  have HC := Lib.hid ((key_ceqs a.key b.key).trans h)
  clear h
  go_enter Tryz.func35, Tryz.ntmps35
  go_wp2_with first | ((with_reducible apply wpList_eql_agg (t := 76) (ks := [.int .i64, .int .i64, .int .i64, .int .i64]) (b := _)); (case hx | hy => rfl); (case hl | ha | hg => kernel_rfl); (case hfx | hfy => rfl); (case hb => exact HC.out)) | ((with_reducible apply wps_boxa S); (case hx => rfl); clear S; intro bz wz S) | ((with_reducible apply wps_loada (T := 76) (k := 4) S 0); (case hx | hi => rfl); (case hk => exact Nat.le_of_ble_eq_true rfl); (case hT => decide +kernel)) | ((with_reducible apply wps_loada (T := 76) (k := 4) S 1); (case hx | hi => rfl); (case hk => exact Nat.le_of_ble_eq_true rfl); (case hT => decide +kernel))
  go_ret
  exact ⟨rfl, S.below⟩
def lastKey : Option Key → List Event → Option Key
  | k, [] => k
  | _, y :: l => lastKey (some y.key) l
theorem lastKey_snoc (y : Event) : ∀ (l : List Event) (k : Option Key), lastKey k (l ++ [y]) = some y.key
  | [], _ => rfl
  | x :: l, _ => lastKey_snoc y l (some x.key)
theorem once_snoc (x : Event) : ∀ (l : List Event) (k : Option Key), onceFrom k (l ++ [x]) = onceFrom k l ++ (if lastKey k l = some x.key then [] else [x])
  | [], k => by
    show onceFrom k [x] = _
    simp only [onceFrom, lastKey, List.nil_append]
    by_cases h : k = some x.key <;> simp [h]
  | y :: l, k => by
    simp only [List.cons_append, onceFrom, lastKey]
    split
    · rename_i h; rw [once_snoc x l k, h]; by_cases h2 : lastKey (some y.key) l = some x.key <;> simp [h2]
    · rw [once_snoc x l]; rfl
theorem once_step {l : List Event} {j : Nat} {x y : Event} (hx : l[j + 1]? = some x) (hy : l[j]? = some y) : once (l.take (j + 2)) = once (l.take (j + 1)) ++ (if y.key = x.key then [] else [x]) := by
  unfold once
  rw [take_snoc hx, once_snoc, take_snoc hy, lastKey_snoc]
  simp only [Option.some.injEq]
theorem once_len (l : List Event) : (once l).length ≤ l.length := by
  have key : ∀ (l : List Event) (k : Option Key), (onceFrom k l).length ≤ l.length := by
    intro l
    induction l with
    | nil => intro k; exact Nat.le_refl _
    | cons x l ih =>
      intro k
      simp only [onceFrom]
      split
      · exact Nat.le_succ_of_le (ih k)
      · simp only [List.length_cons]; exact Nat.succ_le_succ (ih _)
  exact key l none
theorem once_sub : ∀ (l : List Event) (k : Option Key), (onceFrom k l).Sublist l
  | [], _ => List.Sublist.slnil
  | x :: l, k => by
    simp only [onceFrom]
    split
    · exact (once_sub l k).cons x
    · exact (once_sub l _).cons_cons x
def CompRel (R c : Nat) (l : List Event) (F : Nat → Prop) (w : World) (i : Value) (wr : World) : Prop :=
  ∃ k : Nat, k < l.length ∧ i = .int .i64 ((k : Int) + 1) ∧ Hid (once (l.take (k + 1)) = l.take (k + 1)) ∧ St F w wr [Own 78 Event.cells 7 (.slice (some ⟨R, 0, none⟩) l.length c) l]
def CompRel2 (R c : Nat) (l : List Event) (k : Nat) (F : Nat → Prop) (w : World) (i i2 : Value) (wr : World) : Prop :=
  ∃ (kk k2 : Nat) (m : List Event), i = .int .i64 ((kk : Int) + 1) ∧ i2 = .int .i64 ((k2 : Int) + 1) ∧ k + k2 + 2 ≤ l.length ∧ kk ≤ k + k2 ∧ Hid (m.take (kk + 1) = once (l.take (k + k2 + 2))) ∧ Hid (∀ j : Nat, kk + 1 ≤ j → m[j]? = l[j]?) ∧ m.length = l.length ∧
    St F w wr [Own 78 Event.cells 7 (.slice (some ⟨R, 0, none⟩) l.length c) m]
def CpPost (l : List Event) (F : Nat → Prop) (w : World) (e : Ending) (w' : World) : Prop :=
  ∃ ad c, e = .returned (.slice ad (once l).length c) ∧ St F w w' [Own 78 Event.cells 7 (.slice ad (once l).length c) (once l)]
set_option maxRecDepth 100000 in
set_option maxHeartbeats 8000000 in
theorem compact_calls (v : Value) (l : List Event) (w : World) (F : Nat → Prop) (S0 : St F w w [Own 78 Event.cells 7 v l]) (hn : l.length ≤ 65536) :
    Calls Tryz.prog 34 #[v, .func (.func 35) #[] #[]] w (CpPost l F w) := by
  have S := S0
  clear S0
  obtain ⟨ad, c, rfl, _⟩ := (S.ownsl ecells 0 rfl).elim fun _ h => h.form
  by_cases h2 : l.length < 2
  · have ho : once l = l := by
      match l, h2 with
      | [], _ => rfl
      | [x], _ => rfl
      | x :: y :: l, h => exact absurd h (by simp)
    have h2i : (l.length : Int) < 2 := by omega
    go_enter Tryz.func34, Tryz.ntmps34
    go_wp2_with first | ((with_reducible apply wps_loada (T := 78) (k := 7) S 3); (case hx | hi => rfl); (case hk => exact Nat.le_of_ble_eq_true rfl); (case hT => decide +kernel))
    go_ret
    exact ⟨ad, c, by rw [ho]; rfl, by rw [ho]; exact S⟩
  · obtain ⟨R, c', e⟩ := own_hd 0 S rfl (by omega)
    simp only [Value.slice.injEq] at e
    obtain ⟨rfl, hq, rfl⟩ := e
    clear hq
    have hl2 : ¬ ((l.length : Int) < 2) := by omega
    have hlc : l.length ≤ c := by
      obtain ⟨F1, h1⟩ := S.get (i := 0) rfl
      obtain ⟨cur, hO, _⟩ := own_at h1
      exact hO.le
    go_enter Tryz.func34, Tryz.ntmps34
    go_wp2_with first | ((with_reducible apply wps_loada (T := 78) (k := 7) S 3); (case hx | hi => rfl); (case hk => exact Nat.le_of_ble_eq_true rfl); (case hT => decide +kernel))
    go_loopw [5] (fun i wr => CompRel R c l F w i wr) (fun i _ => l.length - (intOf i).toNat)
    case atStart =>
      refine ⟨0, by omega, rfl, ?_, S⟩
      match l, h2 with
      | [], h => simp at h
      | x :: l, _ => exact (rfl : once [x] = [x])
    case round =>
      clear S
      obtain ⟨k, hk, rfl, HO, S⟩ := hrel
      by_cases hlt : k + 1 < l.length
      · obtain ⟨x, hx⟩ : ∃ x, l[k + 1]? = some x := ⟨_, List.getElem?_eq_getElem hlt⟩
        obtain ⟨y, hy⟩ : ∃ y, l[k]? = some y := ⟨_, List.getElem?_eq_getElem hk⟩
        have HS := Lib.hid (once_step hx hy)
        have hlt2 : (k : Int) + 1 < l.length := by omega
        have hlt2b : (k : Int) < l.length := by omega
        by_cases hkk : x.key = y.key
        · have HR := Lib.hid (run1_calls x y true (by simp [hkk]))
          have HS2 : Hid (l.take (k + 1) = once (l.take (k + 0 + 2))) := Lib.hid (by rw [Nat.add_zero, HS.out, if_pos hkk.symm, List.append_nil, HO.out])
          clear hkk HS HO
          have Hx := Lib.hid hx
          have Hy := Lib.hid hy
          clear hx hy
          obtain ⟨q, HQ⟩ : ∃ q, Hid (l.length = k + 1 + q) := ⟨l.length - (k + 1), Lib.hid (by omega)⟩
          have hq0 : 0 < q := by have := HQ.out; omega
          go_wp2_with first | ((with_reducible apply wps_loada (T := 78) (k := 7) S 3); (case hx | hi => rfl); (case hk => exact Nat.le_of_ble_eq_true rfl); (case hT => decide +kernel))
          (refine wp_region_w (soft := [0, 1, 2, 3, 4, 5, 6, 7, 8, 9, 10]) S ?hm ?hB ?_); (case hm => kernel_rfl); (case hB => decide +kernel); clear S
          iterate 11
            (with_reducible apply softs_cons)
            (case hw =>
              (with_reducible apply soft_of); (case hi => rfl)
              intro T wz S
              simp only [List.cons_append, List.nil_append] at S
              go_wp2_with first | ((with_reducible apply wps_loada_own ecells S 0 (hj := Hx.out) (q := 0) (vs := [.int .i64 x.key.at_, .int .i64 x.key.src, .int .i64 x.key.sent, .int .i64 x.key.no, .int .i64 x.dst, .int .i64 x.kind, .int .i64 x.data]) (m := 7)); (case hx | hi => rfl); (case hn => omega); (case hm | hv => rfl); (case hT => decide +kernel)) | ((with_reducible apply wps_loada_own ecells S 0 (hj := Hy.out) (q := 0) (vs := [.int .i64 y.key.at_, .int .i64 y.key.src, .int .i64 y.key.sent, .int .i64 y.key.no, .int .i64 y.dst, .int .i64 y.kind, .int .i64 y.data]) (m := 7)); (case hx | hi => rfl); (case hn => omega); (case hm | hv => rfl); (case hT => decide +kernel)) | (go_at_call 35; refine Calls.mono (HR.out _) ?_; rintro e wz ⟨rfl, hE⟩; replace S := S.ext (Keep.of_below hE); clear hE) | ((with_reducible refine tot_done ?ht ?_); (case ht => kernel_rfl))
              exact ⟨rfl, S⟩)
            (case hs => exact ⟨_, rfl, by kernel_rfl⟩)
          refine softs_nil ?_
          (with_reducible apply W_done); (case hn => rfl); (case hr => decide +kernel)
          intro wz S
          simp only [List.append_nil] at S
          go_wp2_with first | ((with_reducible apply wps_tail Tryz.underlying45 sizeEv (m := q) (l := k + 1)); (case hx | hlo => rfl); (case hm => exact HQ.out); (case h1 => exact hq0); (case h2 => exact hlc))
          go_loopw [5, 7] (fun i i2 wr => CompRel2 R c l k F w i i2 wr) (fun _ i2 _ => l.length - (intOf i2).toNat)
          case atStart => exact ⟨k, 0, l, rfl, rfl, by omega, by omega, HS2, Lib.hid (fun _ _ => rfl), rfl, S⟩
          case round =>
            clear S
            obtain ⟨kk, k2, m, rfl, rfl, hb, hle, HM, HJ, hml, S⟩ := hrel
            have HML0 := Lib.hid hml
            by_cases hlt3 : k + k2 + 2 < l.length
            · obtain ⟨x2, hx2⟩ : ∃ x, l[k + k2 + 1 + 1]? = some x := ⟨_, List.getElem?_eq_getElem (by omega)⟩
              obtain ⟨y2, hy2⟩ : ∃ x, l[k + k2 + 1]? = some x := ⟨_, List.getElem?_eq_getElem (by omega)⟩
              obtain ⟨z2, hz2⟩ : ∃ x, m[kk + 1]? = some x := ⟨_, List.getElem?_eq_getElem (by omega)⟩
              have HS3 := Lib.hid (once_step hx2 hy2)
              have HMX : Hid (m[k + k2 + 1 + 1]? = some x2) := Lib.hid ((HJ.out _ (by omega)).trans hx2)
              have HMY : Hid (m[k + k2 + 1]? = some y2) := Lib.hid ((HJ.out _ (by omega)).trans hy2)
              have hlt4 : (k2 : Int) + 1 < q := by have := HQ.out; omega
              have hlt4b : (k2 : Int) < q := by omega
              have hlt5 : k2 + 1 < q := by omega
              by_cases hke : x2.key = y2.key
              · have HR2 := Lib.hid (run1_calls x2 y2 true (by simp [hke]))
                have HM2 : Hid (m.take (kk + 1) = once (l.take (k + (k2 + 1) + 2))) := Lib.hid (by
                  have := HS3.out
                  rw [if_pos hke.symm, List.append_nil] at this
                  rw [show k + (k2 + 1) + 2 = k + k2 + 1 + 2 by omega, this]; exact HM.out)
                clear hx2 hy2 hke HS3 hz2 hml
                go_wp2_with first | ((with_reducible apply wps_loada (T := 78) (k := 7) S 3); (case hx | hi => rfl); (case hk => exact Nat.le_of_ble_eq_true rfl); (case hT => decide +kernel))
                (refine wp_region_w (soft := [0, 1, 2, 3, 4, 5, 6, 7, 8, 9, 10, 11]) S ?hm ?hB ?_); (case hm => kernel_rfl); (case hB => decide +kernel); clear S
                iterate 12
                  (with_reducible apply softs_cons)
                  (case hw =>
                    (with_reducible apply soft_of); (case hi => rfl)
                    intro T wz S
                    simp only [List.cons_append, List.nil_append] at S
                    go_wp2_with first | ((with_reducible apply wps_loada_own ecells S 0 (hj := HMX.out) (q := 0) (vs := [.int .i64 x2.key.at_, .int .i64 x2.key.src, .int .i64 x2.key.sent, .int .i64 x2.key.no, .int .i64 x2.dst, .int .i64 x2.kind, .int .i64 x2.data]) (m := 7)); (case hx | hi => rfl); (case hn => omega); (case hm | hv => rfl); (case hT => decide +kernel)) | ((with_reducible apply wps_loada_own ecells S 0 (hj := HMY.out) (q := 0) (vs := [.int .i64 y2.key.at_, .int .i64 y2.key.src, .int .i64 y2.key.sent, .int .i64 y2.key.no, .int .i64 y2.dst, .int .i64 y2.kind, .int .i64 y2.data]) (m := 7)); (case hx | hi => rfl); (case hn => omega); (case hm | hv => rfl); (case hT => decide +kernel)) | (go_at_call 35; refine Calls.mono (HR2.out _) ?_; rintro e wz ⟨rfl, hE⟩; replace S := S.ext (Keep.of_below hE); clear hE) | ((with_reducible refine tot_done ?ht ?_); (case ht => kernel_rfl))
                    exact ⟨rfl, S⟩)
                  (case hs => exact ⟨_, rfl, by kernel_rfl⟩)
                refine softs_nil ?_
                (with_reducible apply W_done); (case hn => rfl); (case hr => decide +kernel)
                intro wz S
                simp only [List.append_nil] at S
                go_wp2_with first | ((with_reducible apply wps_loada (T := 78) (k := 7) S 3); (case hx | hi => rfl); (case hk => exact Nat.le_of_ble_eq_true rfl); (case hT => decide +kernel))
                go_roundw
                case rel => exact ⟨kk, k2 + 1, m, rfl, by go_num, by omega, by omega, HM2, HJ, HML0.out, S⟩
                case measure => simp [intOf]; omega
              · have HR2 := Lib.hid (run1_calls x2 y2 false (by simp [hke]))
                have HM2 : Hid ((m.set (kk + 1) x2).take (kk + 1 + 1) = once (l.take (k + (k2 + 1) + 2))) := Lib.hid (by
                  have := HS3.out
                  rw [if_neg (Ne.symm hke)] at this
                  rw [show k + (k2 + 1) + 2 = k + k2 + 1 + 2 by omega, this, ← show m.take (kk + 1) = once (l.take (k + k2 + 1 + 1)) from HM.out, take_snoc (x := x2) (List.getElem?_set_self (by omega)), List.take_set_of_le (Nat.le_refl _)])
                have HJ2 : Hid (∀ j : Nat, kk + 1 + 1 ≤ j → (m.set (kk + 1) x2)[j]? = l[j]?) := Lib.hid (fun j hj => by rw [List.getElem?_set_ne (by omega)]; exact HJ.out j (by omega))
                have HML2 : Hid ((m.set (kk + 1) x2).length = l.length) := Lib.hid (by rw [List.length_set]; exact hml)
                have HZ := Lib.hid hz2
                clear hx2 hy2 hke HS3 hz2 hml
                go_wp2_with first | ((with_reducible apply wps_loada (T := 78) (k := 7) S 3); (case hx | hi => rfl); (case hk => exact Nat.le_of_ble_eq_true rfl); (case hT => decide +kernel))
                (refine wp_region_w (soft := [0, 1, 2, 3, 4, 5, 6, 7, 8, 9, 10, 11]) S ?hm ?hB ?_); (case hm => kernel_rfl); (case hB => decide +kernel); clear S
                iterate 12
                  (with_reducible apply softs_cons)
                  (case hw =>
                    (with_reducible apply soft_of); (case hi => rfl)
                    intro T wz S
                    simp only [List.cons_append, List.nil_append] at S
                    go_wp2_with first | ((with_reducible apply wps_loada_own ecells S 0 (hj := HMX.out) (q := 0) (vs := [.int .i64 x2.key.at_, .int .i64 x2.key.src, .int .i64 x2.key.sent, .int .i64 x2.key.no, .int .i64 x2.dst, .int .i64 x2.kind, .int .i64 x2.data]) (m := 7)); (case hx | hi => rfl); (case hn => omega); (case hm | hv => rfl); (case hT => decide +kernel)) | ((with_reducible apply wps_loada_own ecells S 0 (hj := HMY.out) (q := 0) (vs := [.int .i64 y2.key.at_, .int .i64 y2.key.src, .int .i64 y2.key.sent, .int .i64 y2.key.no, .int .i64 y2.dst, .int .i64 y2.kind, .int .i64 y2.data]) (m := 7)); (case hx | hi => rfl); (case hn => omega); (case hm | hv => rfl); (case hT => decide +kernel)) | (go_at_call 35; refine Calls.mono (HR2.out _) ?_; rintro e wz ⟨rfl, hE⟩; replace S := S.ext (Keep.of_below hE); clear hE) | ((with_reducible refine tot_done ?ht ?_); (case ht => kernel_rfl))
                    exact ⟨rfl, S⟩)
                  (case hs => exact ⟨_, rfl, by kernel_rfl⟩)
                refine softs_nil ?_
                (with_reducible apply W_done); (case hn => rfl); (case hr => decide +kernel)
                intro wz S
                simp only [List.append_nil] at S
                go_wp2_with first | ((with_reducible apply wps_loada_own ecells S 0 (hj := HMX.out) (q := 0) (vs := [.int .i64 x2.key.at_, .int .i64 x2.key.src, .int .i64 x2.key.sent, .int .i64 x2.key.no, .int .i64 x2.dst, .int .i64 x2.kind, .int .i64 x2.data]) (m := 7)); (case hx | hi => rfl); (case hn => omega); (case hm | hv => rfl); (case hT => decide +kernel)) | ((with_reducible apply wps_store_owna ecells S 0 (hj := HZ.out) (e' := x2) (q := 0) (vs := [.int .i64 x2.key.at_, .int .i64 x2.key.src, .int .i64 x2.key.sent, .int .i64 x2.key.no, .int .i64 x2.dst, .int .i64 x2.kind, .int .i64 x2.data]) (m := 7)); (case hx => rfl); (case hn => omega); (case hi | hy | hm | h1 | he => rfl); (case hq => exact Nat.le_of_ble_eq_true rfl); (case hT => decide +kernel); clear S; intro wz S; simp only [List.set_cons_zero] at S)
                go_roundw
                case rel => exact ⟨kk + 1, k2 + 1, m.set (kk + 1) x2, by go_num, by go_num, by omega, by omega, HM2, HJ2, HML2.out, S⟩
                case measure => simp [intOf]; omega
            · have hend : k + k2 + 2 = l.length := by omega
              obtain ⟨q2, HQ2⟩ : ∃ q, Hid (l.length = kk + 1 + q) := ⟨l.length - (kk + 1), Lib.hid (by omega)⟩
              have hq20 : 0 < q2 := by have := HQ2.out; omega
              have HO : Hid (once l = m.take (kk + 1)) := Lib.hid (by rw [HM.out, hend, List.take_length])
              have hge4 : ¬ (k2 : Int) + 1 < q := by have := HQ.out; omega
              have HML : Hid (m.length = kk + 1 + q2) := Lib.hid (hml.trans HQ2.out)
              have hkc : kk + 1 ≤ l.length := by omega
              have HOL : Hid ((once l).length = kk + 1) := Lib.hid (by rw [HO.out, List.length_take, HML.out]; omega)
              have HTT : Hid ((m.take (kk + 1) ++ List.replicate q2 (⟨⟨0, 0, 0, 0⟩, 0, 0, 0⟩ : Event)).take (kk + 1) = once l) := Lib.hid (by
                rw [HO.out, List.take_left' (by rw [List.length_take, HML.out]; omega)])
              clear hend hml
              go_wp2_with first | ((with_reducible apply wps_tail Tryz.underlying45 sizeEv (m := q2) (l := kk + 1)); (case hx | hlo => rfl); (case hm => exact HQ2.out); (case h1 => exact hq20); (case h2 => exact hlc)) | ((with_reducible apply wps_clearTail elem_Ev ecells eone ⟨⟨0, 0, 0, 0⟩, 0, 0, 0⟩ zero_Ev S 0 (m := kk + 1) (q := q2)); (case hx | hi | ho => rfl); (case hm => exact HML.out); (case h0 => exact hq20); clear S; intro wz S; simp only [List.set_cons_zero] at S) | ((with_reducible apply wps_cutown ecells Tryz.underlying45 sizeEv S 0 (u := kk + 1)); (case hx | hi | hu => rfl); (case h1 => rw [List.length_append, List.length_take, HML.out]; omega); clear S; intro S; simp only [List.set_cons_zero] at S)
              go_ret
              refine ⟨_, _, by rw [HOL.out]; rfl, ?_⟩
              rw [HOL.out]
              rw [HTT.out] at S
              exact S
        · have HR := Lib.hid (run1_calls x y false (by simp [hkk]))
          have HO2 : Hid (once (l.take (k + 1 + 1)) = l.take (k + 1 + 1)) := Lib.hid (by
            have := HS.out
            rw [if_neg (Ne.symm hkk), HO.out, ← take_snoc hx] at this
            exact this)
          clear hkk HS HO
          have Hx := Lib.hid hx
          have Hy := Lib.hid hy
          clear hx hy
          go_wp2_with first | ((with_reducible apply wps_loada (T := 78) (k := 7) S 3); (case hx | hi => rfl); (case hk => exact Nat.le_of_ble_eq_true rfl); (case hT => decide +kernel))
          (refine wp_region_w (soft := [0, 1, 2, 3, 4, 5, 6, 7, 8, 9, 10]) S ?hm ?hB ?_); (case hm => kernel_rfl); (case hB => decide +kernel); clear S
          iterate 11
            (with_reducible apply softs_cons)
            (case hw =>
              (with_reducible apply soft_of); (case hi => rfl)
              intro T wz S
              simp only [List.cons_append, List.nil_append] at S
              go_wp2_with first | ((with_reducible apply wps_loada_own ecells S 0 (hj := Hx.out) (q := 0) (vs := [.int .i64 x.key.at_, .int .i64 x.key.src, .int .i64 x.key.sent, .int .i64 x.key.no, .int .i64 x.dst, .int .i64 x.kind, .int .i64 x.data]) (m := 7)); (case hx | hi => rfl); (case hn => omega); (case hm | hv => rfl); (case hT => decide +kernel)) | ((with_reducible apply wps_loada_own ecells S 0 (hj := Hy.out) (q := 0) (vs := [.int .i64 y.key.at_, .int .i64 y.key.src, .int .i64 y.key.sent, .int .i64 y.key.no, .int .i64 y.dst, .int .i64 y.kind, .int .i64 y.data]) (m := 7)); (case hx | hi => rfl); (case hn => omega); (case hm | hv => rfl); (case hT => decide +kernel)) | (go_at_call 35; refine Calls.mono (HR.out _) ?_; rintro e wz ⟨rfl, hE⟩; replace S := S.ext (Keep.of_below hE); clear hE) | ((with_reducible refine tot_done ?ht ?_); (case ht => kernel_rfl))
              exact ⟨rfl, S⟩)
            (case hs => exact ⟨_, rfl, by kernel_rfl⟩)
          refine softs_nil ?_
          (with_reducible apply W_done); (case hn => rfl); (case hr => decide +kernel)
          intro wz S
          simp only [List.append_nil] at S
          go_wp2_with first | ((with_reducible apply wps_loada (T := 78) (k := 7) S 3); (case hx | hi => rfl); (case hk => exact Nat.le_of_ble_eq_true rfl); (case hT => decide +kernel))
          go_roundw
          case rel => exact ⟨k + 1, hlt, by go_num, HO2, S⟩
          case measure => simp [intOf]; omega
      · obtain hke : k + 1 = l.length := by omega
        have HOL : Hid (once l = l) := Lib.hid (by have := HO.out; rw [hke, List.take_length] at this; exact this)
        have hge : ¬ (k : Int) + 1 < l.length := by omega
        clear hke
        go_wp2_with first | ((with_reducible apply wps_loada (T := 78) (k := 7) S 3); (case hx | hi => rfl); (case hk => exact Nat.le_of_ble_eq_true rfl); (case hT => decide +kernel))
        go_ret
        exact ⟨_, _, by rw [HOL.out]; rfl, by rw [HOL.out]; exact S⟩
end Go.Proofs.YtemgonomenjjaaaGreatDoor
namespace Go.Proofs.YtemgonomenjjaaaGreatDoor
open Go Go.Shelf

set_option maxRecDepth 100000
def sortEvs_ren : Go.Shelf.Ren := ⟨fun | 6 => 29 | 14 => 50 | 15 => 51 | 20 => 79 | 21 => 80 | 22 => 81 | 23 => 82 | 24 => 83 | 25 => 84 | 26 => 85 | 27 => 86 | 28 => 87 | 29 => 88 | 46 => 111 | 47 => 112 | 48 => 113 | 49 => 114 | 50 => 115 | 57 => 123 | n => n, fun | 0 => 0 | 1 => 1 | 2 => 2 | 3 => 3 | 4 => 4 | 5 => 5 | 6 => 6 | 7 => 7 | 8 => 8 | 9 => 9 | 10 => 10 | 11 => 11 | 12 => 12 | 13 => 13 | 14 => 14 | 15 => 15 | 16 => 16 | 17 => 17 | 18 => 18 | 19 => 19 | 20 => 20 | 21 => 21 | 22 => 45 | 23 => 85 | 24 => 78 | 25 => 86 | 27 => 64 | 29 => 124 | 37 => 119 | 38 => 120 | 39 => 121 | 42 => 118 | 44 => 156 | 45 => 157 | 46 => 158 | 47 => 159 | 48 => 160 | 49 => 161 | 50 => 162 | 51 => 163 | 52 => 164 | 53 => 165 | 54 => 166 | 55 => 167 | 66 => 197 | 67 => 198 | 68 => 199 | 69 => 200 | 70 => 201 | 71 => 202 | 76 => 212 | 77 => 213 | 78 => 214 | 81 => 234 | 82 => 235 | 83 => 236 | 84 => 237 | 85 => 238 | 86 => 239 | 87 => 46 | 88 => 240 | 89 => 241 | 90 => 242 | 91 => 243 | 92 => 244 | 93 => 245 | 94 => 246 | 95 => 247 | 96 => 248 | n => n, fun n => n⟩
theorem sortEvs : SlLaysF0.n6 Tryz.prog sortEvs_ren := {
  mixed := by kernel_rfl,
  f6 := ⟨Tryz.f29.name, by decide, Tryz.func29.trans (congrArg some (by kernel_rfl))⟩,
  f14 := ⟨Tryz.f50.name, by decide, Tryz.func50.trans (congrArg some (by kernel_rfl))⟩,
  f15 := Tryz.func51.trans (congrArg some (by kernel_rfl)),
  f20 := ⟨Tryz.f79.name, by decide, Tryz.func79.trans (congrArg some (by kernel_rfl))⟩,
  f21 := ⟨Tryz.f80.name, by decide, Tryz.func80.trans (congrArg some (by kernel_rfl))⟩,
  f22 := ⟨Tryz.f81.name, by decide, Tryz.func81.trans (congrArg some (by kernel_rfl))⟩,
  f23 := ⟨Tryz.f82.name, by decide, Tryz.func82.trans (congrArg some (by kernel_rfl))⟩,
  f24 := ⟨Tryz.f83.name, by decide, Tryz.func83.trans (congrArg some (by kernel_rfl))⟩,
  f25 := ⟨Tryz.f84.name, by decide, Tryz.func84.trans (congrArg some (by kernel_rfl))⟩,
  f26 := ⟨Tryz.f85.name, by decide, Tryz.func85.trans (congrArg some (by kernel_rfl))⟩,
  f27 := ⟨Tryz.f86.name, by decide, Tryz.func86.trans (congrArg some (by kernel_rfl))⟩,
  f28 := Tryz.func87.trans (congrArg some (by kernel_rfl)),
  f29 := Tryz.func88.trans (congrArg some (by kernel_rfl)),
  f46 := ⟨Tryz.f111.name, by decide, Tryz.func111.trans (congrArg some (by kernel_rfl))⟩,
  f47 := Tryz.func112.trans (congrArg some (by kernel_rfl)),
  f48 := Tryz.func113.trans (congrArg some (by kernel_rfl)),
  f49 := ⟨Tryz.f114.name, by decide, Tryz.func114.trans (congrArg some (by kernel_rfl))⟩,
  f50 := ⟨Tryz.f115.name, by decide, Tryz.func115.trans (congrArg some (by kernel_rfl))⟩,
  f57 := ⟨Tryz.f123.name, by decide, Tryz.func123.trans (congrArg some (by kernel_rfl))⟩,
  t0 := Tryz.underlying0,
  a0 := Tryz.isAgg0,
  z0 := Tryz.sizeOf0,
  v0 := Tryz.zeroValue0,
  t3 := Tryz.underlying3,
  a3 := Tryz.isAgg3,
  z3 := Tryz.sizeOf3,
  v3 := Tryz.zeroValue3,
  t4 := Tryz.underlying4,
  a4 := Tryz.isAgg4,
  z4 := Tryz.sizeOf4,
  v4 := Tryz.zeroValue4,
  t5 := Tryz.underlying5,
  a5 := Tryz.isAgg5,
  z5 := Tryz.sizeOf5,
  v5 := Tryz.zeroValue5,
  t9 := Tryz.underlying9,
  a9 := Tryz.isAgg9,
  z9 := Tryz.sizeOf9,
  v9 := Tryz.zeroValue9,
  t22 := Tryz.underlying45,
  a22 := Tryz.isAgg45,
  z22 := Tryz.sizeOf45,
  v22 := Tryz.zeroValue45,
  t25 := Tryz.underlying86,
  a25 := Tryz.isAgg86,
  z25 := Tryz.sizeOf86,
  v25 := Tryz.zeroValue86,
  t39 := Tryz.underlying121,
  a39 := Tryz.isAgg121,
  z39 := Tryz.sizeOf121,
  v39 := Tryz.zeroValue121,
  t45 := Tryz.underlying157,
  a45 := Tryz.isAgg157,
  z45 := Tryz.sizeOf157,
  v45 := Tryz.zeroValue157,
  t46 := Tryz.underlying158,
  a46 := Tryz.isAgg158,
  z46 := Tryz.sizeOf158,
  v46 := Tryz.zeroValue158,
  t50 := Tryz.underlying162,
  a50 := Tryz.isAgg162,
  z50 := Tryz.sizeOf162,
  v50 := Tryz.zeroValue162,
  t53 := Tryz.underlying165,
  a53 := Tryz.isAgg165,
  z53 := Tryz.sizeOf165,
  v53 := Tryz.zeroValue165,
  t55 := Tryz.underlying167,
  a55 := Tryz.isAgg167,
  z55 := Tryz.sizeOf167,
  v55 := Tryz.zeroValue167,
  t66 := Tryz.underlying197,
  a66 := Tryz.isAgg197,
  z66 := Tryz.sizeOf197,
  v66 := Tryz.zeroValue197,
  t70 := Tryz.underlying201,
  a70 := Tryz.isAgg201,
  z70 := Tryz.sizeOf201,
  v70 := Tryz.zeroValue201,
  t76 := Tryz.underlying212,
  a76 := Tryz.isAgg212,
  z76 := Tryz.sizeOf212,
  v76 := Tryz.zeroValue212,
  t77 := Tryz.underlying213,
  a77 := Tryz.isAgg213,
  z77 := Tryz.sizeOf213,
  v77 := Tryz.zeroValue213 }
end Go.Proofs.YtemgonomenjjaaaGreatDoor
/- slices.SortFunc of events by inq.Compare; the walk of a model's rules. -/
namespace Go.Proofs.YtemgonomenjjaaaGreatDoor
open Go Go.RowKit Reg Mem Go.Shelf Go.Sort

set_option maxRecDepth 100000 in
/-- Events sorted by inq.Compare. -/
theorem sortev_calls {G : Nat → Prop} {w0 w : World} {L : List Asn} (i : Nat) {v : Value} {l : List Event} (S : St G w0 w L) (hi : L[i]? = some (Own 78 Event.cells 7 v l)) (hn : l.length ≤ 65536) :
    Calls Tryz.prog 29 #[v, .func (.func 30) #[] #[]] w fun e w' => e = .returned (.tuple #[]) ∧ St G w0 w' (L.set i (Own 78 Event.cells 7 v (sortT l))) := by
  obtain ⟨ad, c, rfl, _⟩ := (S.ownsl ecells i hi).elim fun _ h => h.form
  by_cases h0 : l.length = 0
  · obtain rfl : l = [] := List.eq_nil_of_length_eq_zero h0
    refine Calls.mono (AnyF.slices_SortFunc_none (P := Tryz.prog) (ρ := sortEvs_ren) { sortEvs with } _ _ _ _) ?_
    rintro e wz ⟨rfl, rfl⟩
    refine ⟨rfl, ?_⟩
    have e : L.set i (Own 78 Event.cells 7 (.slice ad ([] : List Event).length c) (sortT [])) = L := by
      obtain ⟨h1, h2⟩ := List.getElem?_eq_some_iff.1 hi
      rw [show sortT [] = [] from rfl, ← h2, List.set_getElem_self]
    rw [e]
    exact S
  · obtain ⟨R, c', e⟩ := own_hd i S hi (by omega)
    simp only [Value.slice.injEq] at e
    obtain ⟨rfl, _, rfl⟩ := e
    refine Calls.mono (sortK (P := Tryz.prog) (ρ := sortEvs_ren) (i := i) (enc := Event.cells) (k := 7) sortEvs (fun w => by kernel_rfl) sizeEv ecells eone Event.tcmp swo_ev 30 #[] (fun _ _ => rfl) S hi (by omega) (fun W _ x y => icmpare_grew x y W)) ?_
    rintro e wz ⟨rfl, ys, hp2, hs2, S2⟩
    rw [sorted_ev hp2 hs2] at S2
    exact ⟨rfl, S2⟩
def RRunPost (s2 : State) (out : List Event) (w : World) (e : Ending) (w' : World) : Prop :=
  ∃ ad cp, e = .returned (.tuple #[.agg #[.int .i64 s2.n0, .int .i64 s2.n1, .int .i64 s2.n2, .int .i64 s2.n3], .slice ad out.length cp]) ∧ St (fun _ => False) w w' [Own 78 Event.cells 7 (.slice ad out.length cp) out]
theorem sortT_len (l : List Event) : (sortT l).length = l.length := (sortT_perm l).length_eq
set_option maxRecDepth 100000 in
set_option maxHeartbeats 8000000 in
theorem rrun_calls (R : Nat) (vs hs : List Value) (c : Cfg) (lp : Int) (s : State) (v : Value) (l : List Event) (w : World) (F F2 F3 : Nat → Prop) (h : (ModA true 84 R vs hs c).at_ w F) (h2 : (Sl true Event.cells 7 v l).at_ w F2) (ht : Tab.at_ w F3) (hn : l.length ≤ 65536)
    (hc : cfgE c = 0) (hat : ∀ x ∈ l, -9223372036854775808 ≤ x.key.at_) (s2 : State) (out : List Event) (hr : ruleC c lp s l = (s2, out)) :
    Calls Tryz.prog 15 #[.agg #[.pointer (some ⟨R, 0, none⟩)], .int .i64 lp, .agg #[.int .i64 s.n0, .int .i64 s.n1, .int .i64 s.n2, .int .i64 s.n3], v] w (RRunPost s2 out w) := by
  have S : St (fun _ => False) w w [ModA true 84 R vs hs c, Sl true Event.cells 7 v l, Tab] := (((St.init _ w).share rfl rfl ht).share (A := Sl true Event.cells 7 v l) rfl rfl h2).share rfl rfl h
  obtain ⟨ad, cp, rfl, _⟩ := (S.sl 1 rfl).elim fun _ h => h.form
  clear h h2 ht
  have hn2 : l.length ≤ 4294967296 := by omega
  have hsn : (sortT l).length ≤ 65536 := by rw [sortT_len]; exact hn
  obtain ⟨q, hq⟩ : ∃ q, once (sortT l) = q := ⟨_, rfl⟩
  have hqn : q.length ≤ 65536 := by rw [← hq]; exact Nat.le_trans (once_len _) hsn
  have HQ := Lib.hid hq
  have HAT : Hid (wrongE c.lps.length lp q = 0 → -9223372036854775808 ≤ atE q) := Lib.hid fun _ => by
    cases q with
    | nil => decide
    | cons x t =>
      have hx : x ∈ once (sortT l) := by rw [hq]; simp
      have hsub : (once (sortT l)).Sublist (sortT l) := once_sub _ none
      exact hat x ((sortT_perm l).mem_iff.1 (hsub.subset hx))
  have HRU : Hid ((s2, out) = if wrongE c.lps.length lp q = 0 then batchC c lp s q else (s, [])) := Lib.hid (by rw [← hr]; unfold ruleC; rw [hq])
  clear hq hat hr
  go_enter Tryz.func15, Tryz.ntmps15
  go_wp2_with first | ((with_reducible apply wps_boxa (E := 57) S); (case hx => rfl); clear S; intro b4 wz S) | ((with_reducible apply wps_boxa (E := 52) S); (case hx => rfl); clear S; intro b6 wz S) | ((with_reducible apply wps_alloca (E := 52) S); (case hz => exact Tryz.zeroValue52); clear S; intro b8 wz S) | (go_at_call 28; refine Calls.mono (clone_Ev _ _ (S.get (i := 4) rfl).choose_spec hn2) ?_; rintro e wz ⟨ad1, c1, rfl, _, T⟩; replace S := S.join T rfl; clear T; simp only [List.cons_append, List.nil_append] at S) | (go_at_call 29; refine Calls.mono (sortev_calls 0 S rfl hn) ?_; clear S; rintro e wz ⟨rfl, S⟩; simp only [List.set_cons_zero] at S) | ((with_reducible refine tot_done ?ht ?_); (case ht => kernel_rfl)) | ((with_reducible apply wps_boxa S); (case hx => rfl); clear S; intro bz wz S) | ((with_reducible apply wps_box1 (v := .int _ _) S); (case hx | h1 => rfl); clear S; intro bz wz S) | ((with_reducible apply wps_box1 (v := .bool _) S); (case hx | h1 => rfl); clear S; intro bz wz S) | ((with_reducible apply wps_box1 (v := .slice _ _ _) S); (case hx | h1 => rfl); clear S; intro bz wz S) | ((with_reducible apply wps_box1 (v := .pointer _) S); (case hx | h1 => rfl); clear S; intro bz wz S) | ((with_reducible apply wps_box1 (v := .map _) S); (case hx | h1 => rfl); clear S; intro bz wz S) | ((with_reducible apply wps_box1 (v := .string _) S); (case hx | h1 => rfl); clear S; intro bz wz S) | ((with_reducible apply wps_box1 (v := .func _ _ _) S); (case hx | h1 => rfl); clear S; intro bz wz S) | ((with_reducible apply wps_alloca (E := 52) S); (case hz => exact Tryz.zeroValue52); clear S; intro bz wz S) | ((with_reducible apply wps_load S 0); (case hx | hi | hu => rfl); (case hT => decide +kernel)) | ((with_reducible apply wps_loada (T := 52) (k := 4) S 0); (case hx | hi => rfl); (case hk => exact Nat.le_of_ble_eq_true rfl); (case hT => decide +kernel)) | ((with_reducible apply wps_load S 1); (case hx | hi | hu => rfl); (case hT => decide +kernel)) | ((with_reducible apply wps_loada (T := 52) (k := 4) S 1); (case hx | hi => rfl); (case hk => exact Nat.le_of_ble_eq_true rfl); (case hT => decide +kernel))
  obtain ⟨ss, hss⟩ : ∃ t, sortT l = t := ⟨_, rfl⟩
  rw [hss] at S HQ hsn
  have HL : Hid (l.length = ss.length) := Lib.hid (by rw [← hss, sortT_len])
  clear hss
  have HB := Lib.hid fun (v : Value) (w : World) (F F2 F3 : Nat → Prop) (h : (ModA true 84 R vs hs c).at_ w F) (h2 : (Sl true Event.cells 7 v q).at_ w F2) (ht : Tab.at_ w F3) => brun_callsW R vs hs c lp s v q w F F2 F3 h h2 ht hqn hc HAT.out
  clear hc HAT
  have hs2 : once ss = q := HQ.out
  by_cases hw : wrongE c.lps.length lp q = 0
  · have HR : Hid (batchC c lp s q = (s2, out)) := Lib.hid (by have := HRU.out; rw [if_pos hw] at this; exact this.symm)
    have HB2 : Hid (∀ (v : Value) (w : World) (F F2 F3 : Nat → Prop) (h : (ModA true 84 R vs hs c).at_ w F) (h2 : (Sl true Event.cells 7 v q).at_ w F2) (ht : Tab.at_ w F3), Calls Tryz.prog 36 #[.pointer (some ⟨R, 0, none⟩), .int .i64 lp, .agg #[.int .i64 s.n0, .int .i64 s.n1, .int .i64 s.n2, .int .i64 s.n3], v] w fun e w' =>
      ∃ ad cp, e = .returned (.tuple #[.agg #[.int .i64 s2.n0, .int .i64 s2.n1, .int .i64 s2.n2, .int .i64 s2.n3], .slice ad out.length cp, .int .i64 0]) ∧ St (fun _ => False) w w' [Own 78 Event.cells 7 (.slice ad out.length cp) out]) := Lib.hid fun v w F F2 F3 h h2 ht => (HB.out v w F F2 F3 h h2 ht).mono fun e w' hp => by
        rcases hp with ⟨h1, _⟩ | ⟨_, v, he, S⟩
        · exact absurd hw h1
        · rw [HR.out] at he S
          obtain ⟨ad, cp, rfl, _⟩ := (S.ownsl ecells 0 rfl).elim fun _ h => h.form
          exact ⟨ad, cp, he, S⟩
    clear HB hw HRU HR
    go_wp2_with first | (go_at_call 34; obtain ⟨Fz, hF, hBk⟩ := S.lend1 0 rfl rfl; refine Calls.mono (compact_calls _ _ _ _ (St.one _ hF) hsn) ?_; rintro e wz ⟨ad2, c2, rfl, T⟩; replace S := hBk _ _ rfl T; clear hBk hF T; simp only [List.set_cons_zero] at S) | ((with_reducible apply wps_load S 3); (case hx | hi | hu => rfl); (case hT => decide +kernel)) | ((with_reducible apply wps_loada (T := 52) (k := 4) S 2); (case hx | hi => rfl); (case hk => exact Nat.le_of_ble_eq_true rfl); (case hT => decide +kernel)) | (go_at_call 36; rw [hs2] at S; refine Calls.mono (HB2.out _ _ _ _ _ (S.get (i := 4) rfl).choose_spec (own_sl (sh := true) ecells (S.get (i := 0) rfl).choose_spec) (S.get (i := 6) rfl).choose_spec) ?_; rintro r wz ⟨ado, cpo, rfl, T⟩; replace S := S.join T rfl; clear T; simp only [List.cons_append, List.nil_append] at S) | ((with_reducible apply wps_alloca (E := 52) S); (case hz => exact Tryz.zeroValue52); clear S; intro b11 wz S) | ((with_reducible apply wps_storea (T := 52) S 0 (vs := [.int .i64 s2.n0, .int .i64 s2.n1, .int .i64 s2.n2, .int .i64 s2.n3]) (m := 4)); (case hx | hy | hi | hm | h1 => rfl); (case hn => exact Nat.le_of_ble_eq_true rfl); (case hT => decide +kernel); clear S; intro wz S; simp only [List.set_cons_zero, List.set_cons_succ, setAll, List.setIfInBounds_toArray] at S) | ((with_reducible apply wps_loada (T := 52) (k := 4) S 0); (case hx | hi => rfl); (case hk => exact Nat.le_of_ble_eq_true rfl); (case hT => decide +kernel)) | ((with_reducible apply wps_storea (T := 52) S 3 (vs := [.int .i64 s2.n0, .int .i64 s2.n1, .int .i64 s2.n2, .int .i64 s2.n3]) (m := 4)); (case hx | hy | hi | hm | h1 => rfl); (case hn => exact Nat.le_of_ble_eq_true rfl); (case hT => decide +kernel); clear S; intro wz S; simp only [List.set_cons_zero, List.set_cons_succ, setAll, List.setIfInBounds_toArray] at S) | ((with_reducible refine tot_done ?ht ?_); (case ht => kernel_rfl)) | ((with_reducible apply wps_alloca (E := 52) S); (case hz => exact Tryz.zeroValue52); clear S; intro bz wz S) | ((with_reducible apply wps_load S 0); (case hx | hi | hu => rfl); (case hT => decide +kernel)) | ((with_reducible apply wps_loada (T := 52) (k := 4) S 0); (case hx | hi => rfl); (case hk => exact Nat.le_of_ble_eq_true rfl); (case hT => decide +kernel))
    (try simp only [Exit.inBlock, Exit.then]); refine bodyPost_ret (results2 rfl (S.resA 3 rfl rfl (by kernel_rfl)) (res_tmp rfl)) rfl ?_
    exact ⟨_, _, rfl, S.pick [1] rfl⟩
  · obtain ⟨e0, he0⟩ : ∃ e, wrongE c.lps.length lp q = e := ⟨_, rfl⟩
    have HR : Hid (s2 = s ∧ out = []) := Lib.hid (by have := HRU.out; rw [if_neg hw] at this; simpa using this)
    have h1 : (e0 != 0) = true := by rw [← he0]; simpa using hw
    have HB2 : Hid (∀ (v : Value) (w : World) (F F2 F3 : Nat → Prop) (h : (ModA true 84 R vs hs c).at_ w F) (h2 : (Sl true Event.cells 7 v q).at_ w F2) (ht : Tab.at_ w F3), Calls Tryz.prog 36 #[.pointer (some ⟨R, 0, none⟩), .int .i64 lp, .agg #[.int .i64 s.n0, .int .i64 s.n1, .int .i64 s.n2, .int .i64 s.n3], v] w fun e w' =>
      e = .returned (.tuple #[.agg #[.int .i64 0, .int .i64 0, .int .i64 0, .int .i64 0], .slice none 0 0, .int .i64 e0]) ∧ Below w.heap.size w w') := Lib.hid fun v w F F2 F3 h h2 ht => (HB.out v w F F2 F3 h h2 ht).mono fun e w' hp => by
        rcases hp with ⟨_, he, hb⟩ | ⟨h1, _⟩
        · rw [he0] at he; exact ⟨he, hb⟩
        · exact absurd h1 hw
    clear HB hw HRU he0
    go_wp2_with first | (go_at_call 34; obtain ⟨Fz, hF, hBk⟩ := S.lend1 0 rfl rfl; refine Calls.mono (compact_calls _ _ _ _ (St.one _ hF) hsn) ?_; rintro e wz ⟨ad2, c2, rfl, T⟩; replace S := hBk _ _ rfl T; clear hBk hF T; simp only [List.set_cons_zero] at S) | ((with_reducible apply wps_load S 3); (case hx | hi | hu => rfl); (case hT => decide +kernel)) | ((with_reducible apply wps_loada (T := 52) (k := 4) S 2); (case hx | hi => rfl); (case hk => exact Nat.le_of_ble_eq_true rfl); (case hT => decide +kernel)) | (go_at_call 36; rw [hs2] at S; refine Calls.mono (HB2.out _ _ _ _ _ (S.get (i := 4) rfl).choose_spec (own_sl (sh := true) ecells (S.get (i := 0) rfl).choose_spec) (S.get (i := 6) rfl).choose_spec) ?_; rintro r wz ⟨rfl, hE⟩; replace S := S.ext (Keep.of_below hE); clear hE) | ((with_reducible apply wps_alloca (E := 52) S); (case hz => exact Tryz.zeroValue52); clear S; intro b11 wz S) | ((with_reducible apply wps_storea (T := 52) S 0 (vs := [.int .i64 0, .int .i64 0, .int .i64 0, .int .i64 0]) (m := 4)); (case hx | hy | hi | hm | h1 => rfl); (case hn => exact Nat.le_of_ble_eq_true rfl); (case hT => decide +kernel); clear S; intro wz S; simp only [List.set_cons_zero, List.set_cons_succ, setAll, List.setIfInBounds_toArray] at S) | ((with_reducible apply wps_loada (T := 52) (k := 4) S 3); (case hx | hi => rfl); (case hk => exact Nat.le_of_ble_eq_true rfl); (case hT => decide +kernel)) | ((with_reducible apply wps_storea (T := 52) S 2 (vs := [.int .i64 s.n0, .int .i64 s.n1, .int .i64 s.n2, .int .i64 s.n3]) (m := 4)); (case hx | hy | hi | hm | h1 => rfl); (case hn => exact Nat.le_of_ble_eq_true rfl); (case hT => decide +kernel); clear S; intro wz S; simp only [List.set_cons_zero, List.set_cons_succ, setAll, List.setIfInBounds_toArray] at S) | ((with_reducible refine tot_done ?ht ?_); (case ht => kernel_rfl)) | ((with_reducible apply wps_alloca (E := 52) S); (case hz => exact Tryz.zeroValue52); clear S; intro bz wz S) | ((with_reducible apply wps_load S 0); (case hx | hi | hu => rfl); (case hT => decide +kernel)) | ((with_reducible apply wps_loada (T := 52) (k := 4) S 0); (case hx | hi => rfl); (case hk => exact Nat.le_of_ble_eq_true rfl); (case hT => decide +kernel))
    (try simp only [Exit.inBlock, Exit.then]); refine bodyPost_ret (results2 rfl (S.resA 2 rfl rfl (by kernel_rfl)) (res_tmp rfl)) rfl ?_
    obtain ⟨rfl, rfl⟩ := HR.out
    exact ⟨none, 0, rfl, (S.nil 78 Event.cells 7).pick [0] rfl⟩
end Go.Proofs.YtemgonomenjjaaaGreatDoor
/- A configuration out of its parts. -/
namespace Go.Proofs.YtemgonomenjjaaaGreatDoor
open Go Go.RowKit Reg Mem

theorem cfg_any {vP vL vS : Value} {hs : List Value} {c : Cfg} {w : World} {F1 F2 F3 F4 : Nat → Prop} (h1 : (Sl true vcell 1 vP hs).at_ w F1) (h2 : (Sl true Place.cells 5 vL c.lps).at_ w F2) (h3 : (Sl true Start.cells 4 vS c.starts).at_ w F3) (h4 : (Sls true Instr.cells 5 hs c.programs).at_ w F4) :
    (CfgA true [vP, vL, vS, .int .i64 c.fin, .int .i64 c.fuel, .int .i64 c.fan] hs c).at_ w (fun b => b < w.heap.size) :=
  ⟨⟨⟨vP, vL, vS, rfl, h1.1.mono h1.2, h2.1.mono h2.2, h3.1.mono h3.2⟩, h4.1.mono h4.2⟩, fun _ h => h⟩
theorem sls_one {α : Type} {enc : α → List Value} {k : Nat} {v : Value} {xs : List α} {w : World} {F : Nat → Prop} (h : (Sl true enc k v xs).at_ w F) : (Sls true enc k [v] [xs]).at_ w F :=
  ⟨⟨rfl, fun i u ys hu hy => by
    cases i with
    | zero => simp at hu hy; subst hu; subst hy; exact h.1
    | succ i => simp at hu⟩, h.2⟩
end Go.Proofs.YtemgonomenjjaaaGreatDoor

import Derived.Test.YtmjljoaakdocaaaGreatDoorZ26
import Derived.Test.YtmjljoaakdocaaaGreatDoorZ27
import Derived.Test.YtmjljoaakdocaaaGreatDoorZ21
import Derived.Test.YtmjljoaakdocaaaGreatDoorZ19
import Derived.Test.YtmjljoaakdocaaaGreatDoorZ17
import Derived.Deep.Cut
/- The walk of a kernel's deliver, where a worker reports. -/
namespace Go.Proofs.YtmjljoaakdocaaaGreatDoor
open Go Go.RowKit Reg Mem

def reported (k : KeE) (x : PkE) : KeE := { k with net := k.net.less x.no, ma := repM k.ma x.from_.toNat x.x.at_ }
set_option maxRecDepth 100000 in
set_option maxHeartbeats 8000000 in
theorem kdeliver_rep (X R : Nat) (k : KeE) (d : Int × Int × Int) (x : PkE) (z : Int) (hk : KeRun k) (hd1 : -9223372036854775808 ≤ d.2.2) (hd2 : d.2.2 ≤ 9223372036854775807) (hd : (k.net.way.map (·.no)).Nodup) (hb : boxB k.net.boxes d.2.1 = true) (hx : pickE d.2.1 d.2.2 k.net.way = some x)
    (hkd : x.x.kind = 4) (h0 : 0 ≤ x.from_) (hz : k.ma.reps[x.from_.toNat]? = some z) (hz0 : z < 0) (hno : x.x.no = k.ma.no) (ht : timeB x.x.at_ = true) (hr : k.ma.runs = true) (hall : repAll k.ma x.from_.toNat x.x.at_ = false) (w : World) (F : Nat → Prop) (S0 : St F w w [kernelA X R k]) :
    Calls Tryz.prog 54 #[.pointer (some ⟨X, 0, none⟩), .agg #[.int .i64 d.1, .int .i64 d.2.1, .int .i64 d.2.2]] w fun e w' => e = .returned (.int .i64 0) ∧ St F w w' [kernelA X R (reported k x)] := by
  obtain ⟨q, hq, S⟩ := kernel_open S0
  clear S0
  have HP := Lib.hid fun w F S0 => netpick_ok q.nt k.net d.2.1 d.2.2 x hd1 hd2 hd hk.way hb hx w F S0
  have HM := Lib.hid fun w F S0 => mreport_calls q.ma k.ma x.from_.toNat x.x.at_ z w F S0 (by rw [hk.reps]; exact hk.many) hz hz0 ht hr
  rw [show ((x.from_.toNat : Nat) : Int) = x.from_ by omega, ← hno, hall] at HM
  have HQ := Lib.hid hq
  have f0 : (x.x.kind == 0) = false := by rw [hkd]; rfl
  have f1 : (x.x.kind == 1) = false := by rw [hkd]; rfl
  have f2 : (x.x.kind == 2) = false := by rw [hkd]; rfl
  have f3 : (x.x.kind == 3) = false := by rw [hkd]; rfl
  clear hk hq hkd hd1 hd2 hd hb hx hno hz hz0 ht hr hall h0
  unfold kernelBlk at S
  go_enter Tryz.func54, Tryz.ntmps54
  go_upto_region 1 with first | ((with_reducible apply wps_boxa (E := 23) S); (case hx => rfl); clear S; intro b3 wz S)
  replace S := S.pick [0, 1, 2, 3, 5, 6, 7, 4] rfl
  simp only [pick, nth] at S
  (refine wp_region_wt (soft := [0, 1, 2, 3, 4, 5, 6, 7]) (L := [_, _, _, _, _, _, _]) (T := [_]) S ?hm ?hB ?_); (case hm => kernel_rfl); (case hB => decide +kernel); clear S
  iterate 8
    (with_reducible apply softs_cons)
    (case hw =>
      (with_reducible apply soft_of); (case hi => rfl)
      intro T wz S
      simp only [List.cons_append, List.nil_append] at S
      go_wp2_with first | ((with_reducible apply wps_load S 6); (case hx | hi | hu => rfl); (case hT => decide +kernel)) | ((with_reducible apply wps_load S 0); (case hx | hi | hu => rfl); (case hT => decide +kernel)) | ((with_reducible refine tot_done ?ht ?_); (case ht => kernel_rfl))
      exact ⟨rfl, S⟩)
    (case hs => exact ⟨_, rfl, by kernel_rfl⟩)
  refine softs_nil ?_
  (with_reducible apply W_hard2 (i := 8) (i' := 12)); (case hn => rfl); (case hr => decide +kernel)
  focus
    intro wz S
    (with_reducible apply hard_of); (case hi => rfl)
    simp only [List.cons_append, List.nil_append] at S
    go_wp2_with first | (go_at_call 87; obtain ⟨Fz, hF, hBk⟩ := S.lend [7] [] [0, 1, 2, 3, 4, 5, 6] rfl rfl rfl; simp only [List.cons_append, List.nil_append, pick, nth] at hF hBk; refine Calls.mono (HP.out _ _ hF) ?_; rintro rr wz ⟨rfl, T⟩; replace S := (hBk _ _ T rfl).pick [1, 2, 3, 4, 5, 6, 7, 0] rfl; clear hBk hF T; simp only [List.cons_append, List.nil_append, pick, nth] at S) | ((with_reducible refine tot_done ?ht ?_); (case ht => kernel_rfl))
    refine ⟨_, S, ?_⟩
    clear S
    (refine W_mid (f := 3) (soft := [9, 10, 11]) rfl ?hB ?_); (case hB => decide +kernel)
    iterate 3
      (with_reducible apply softs_cons)
      (case hw =>
        (with_reducible apply soft_of); (case hi => rfl)
        intro T wz S
        simp only [List.cons_append, List.nil_append] at S
        go_wp2_with first | ((with_reducible refine tot_done ?ht ?_); (case ht => kernel_rfl))
        exact ⟨rfl, S⟩)
      (case hs => exact ⟨_, rfl, by kernel_rfl⟩)
    refine softs_nil ?_
    (with_reducible apply W_hard1 (i := 12)); (case hn => rfl); (case hr => decide +kernel)
    intro wz S
    (with_reducible apply hard_of); (case hi => rfl)
    simp only [List.cons_append, List.nil_append] at S
    go_wp2_with first | ((with_reducible apply wps_alloca (E := 100) S); (case hz => exact Tryz.zeroValue100); clear S; intro b5 wz S) | ((with_reducible refine tot_done ?ht ?_); (case ht => kernel_rfl))
    refine ⟨_, S.pick [1, 2, 3, 4, 5, 6, 7, 8, 0] rfl, ?_⟩
    clear S
    (with_reducible apply W_hard1 (i := 13)); (case hn => rfl); (case hr => decide +kernel)
    intro wz S
    (with_reducible apply hard_of); (case hi => rfl)
    simp only [List.cons_append, List.nil_append] at S
    go_wp2_with first | ((with_reducible apply wps_storea (T := 100) S 8 (vs := [.int .i64 x.no, .int .i64 x.from_, .int .i64 x.to_, .int .i64 x.x.kind, .int .i64 x.x.m.ev.key.at_, .int .i64 x.x.m.ev.key.src, .int .i64 x.x.m.ev.key.sent, .int .i64 x.x.m.ev.key.no, .int .i64 x.x.m.ev.dst, .int .i64 x.x.m.ev.kind, .int .i64 x.x.m.ev.data, .bool x.x.m.anti, .int .i64 x.x.no, .int .i64 x.x.at_]) (m := 14)); (case hx | hy | hi | hm | h1 => rfl); (case hn => exact Nat.le_of_ble_eq_true rfl); (case hT => decide +kernel); clear S; intro wz S; simp only [List.set_cons_zero, List.set_cons_succ, setAll, List.setIfInBounds_toArray] at S) | ((with_reducible refine tot_done ?ht ?_); (case ht => kernel_rfl))
    refine ⟨_, S, ?_⟩
    clear S
    (refine W_mid (f := 0) (soft := [14]) rfl ?hB ?_); (case hB => decide +kernel)
    iterate 1
      (with_reducible apply softs_cons)
      (case hw =>
        (with_reducible apply soft_of); (case hi => rfl)
        intro T wz S
        simp only [List.cons_append, List.nil_append] at S
        go_wp2_with first | ((with_reducible refine tot_done ?ht ?_); (case ht => kernel_rfl))
        exact ⟨rfl, S⟩)
      (case hs => exact ⟨_, rfl, by kernel_rfl⟩)
    refine softs_nil ?_
    (with_reducible apply W_done); (case hn => rfl); (case hr => decide +kernel)
    intro wz S
    repeat (first | simp only at S | simp only [pick] at S | simp only [nth] at S | simp only [List.set_cons_succ] at S | simp only [List.set_cons_zero] at S | simp only [List.setIfInBounds_toArray] at S | simp only [setAll] at S | simp only [List.cons_append] at S | simp only [List.nil_append] at S | simp only [List.append_nil] at S)
  rotate_left 1
  focus
    intro wz S
    (with_reducible apply hard_of); (case hi => rfl)
    simp only [List.cons_append, List.nil_append] at S
    go_wp2_with first | ((with_reducible apply wps_alloca (E := 100) S); (case hz => exact Tryz.zeroValue100); clear S; intro b5 wz S) | ((with_reducible refine tot_done ?ht ?_); (case ht => kernel_rfl))
    refine ⟨_, S.pick [1, 2, 3, 4, 5, 6, 7, 8, 0] rfl, ?_⟩
    clear S
    (with_reducible apply W_hard1 (i := 8)); (case hn => rfl); (case hr => decide +kernel)
    intro wz S
    (with_reducible apply hard_of); (case hi => rfl)
    simp only [List.cons_append, List.nil_append] at S
    go_wp2_with first | (go_at_call 87; obtain ⟨Fz, hF, hBk⟩ := S.lend [7] [] [0, 1, 2, 3, 4, 5, 6, 8] rfl rfl rfl; simp only [List.cons_append, List.nil_append, pick, nth] at hF hBk; refine Calls.mono (HP.out _ _ hF) ?_; rintro rr wz ⟨rfl, T⟩; replace S := (hBk _ _ T rfl).pick [1, 2, 3, 4, 5, 6, 7, 0, 8] rfl; clear hBk hF T; simp only [List.cons_append, List.nil_append, pick, nth] at S) | ((with_reducible refine tot_done ?ht ?_); (case ht => kernel_rfl))
    refine ⟨_, S, ?_⟩
    clear S
    (refine W_mid (f := 2) (soft := [9, 10, 11]) rfl ?hB ?_); (case hB => decide +kernel)
    iterate 3
      (with_reducible apply softs_cons)
      (case hw =>
        (with_reducible apply soft_of); (case hi => rfl)
        intro T wz S
        simp only [List.cons_append, List.nil_append] at S
        go_wp2_with first | ((with_reducible refine tot_done ?ht ?_); (case ht => kernel_rfl))
        exact ⟨rfl, S⟩)
      (case hs => exact ⟨_, rfl, by kernel_rfl⟩)
    refine softs_nil ?_
    (with_reducible apply W_hard1 (i := 13)); (case hn => rfl); (case hr => decide +kernel)
    intro wz S
    (with_reducible apply hard_of); (case hi => rfl)
    simp only [List.cons_append, List.nil_append] at S
    go_wp2_with first | ((with_reducible apply wps_storea (T := 100) S 8 (vs := [.int .i64 x.no, .int .i64 x.from_, .int .i64 x.to_, .int .i64 x.x.kind, .int .i64 x.x.m.ev.key.at_, .int .i64 x.x.m.ev.key.src, .int .i64 x.x.m.ev.key.sent, .int .i64 x.x.m.ev.key.no, .int .i64 x.x.m.ev.dst, .int .i64 x.x.m.ev.kind, .int .i64 x.x.m.ev.data, .bool x.x.m.anti, .int .i64 x.x.no, .int .i64 x.x.at_]) (m := 14)); (case hx | hy | hi | hm | h1 => rfl); (case hn => exact Nat.le_of_ble_eq_true rfl); (case hT => decide +kernel); clear S; intro wz S; simp only [List.set_cons_zero, List.set_cons_succ, setAll, List.setIfInBounds_toArray] at S) | ((with_reducible refine tot_done ?ht ?_); (case ht => kernel_rfl))
    refine ⟨_, S, ?_⟩
    clear S
    (refine W_mid (f := 0) (soft := [14]) rfl ?hB ?_); (case hB => decide +kernel)
    iterate 1
      (with_reducible apply softs_cons)
      (case hw =>
        (with_reducible apply soft_of); (case hi => rfl)
        intro T wz S
        simp only [List.cons_append, List.nil_append] at S
        go_wp2_with first | ((with_reducible refine tot_done ?ht ?_); (case ht => kernel_rfl))
        exact ⟨rfl, S⟩)
      (case hs => exact ⟨_, rfl, by kernel_rfl⟩)
    refine softs_nil ?_
    (with_reducible apply W_done); (case hn => rfl); (case hr => decide +kernel)
    intro wz S
    repeat (first | simp only at S | simp only [pick] at S | simp only [nth] at S | simp only [List.set_cons_succ] at S | simp only [List.set_cons_zero] at S | simp only [List.setIfInBounds_toArray] at S | simp only [setAll] at S | simp only [List.cons_append] at S | simp only [List.nil_append] at S | simp only [List.append_nil] at S)
  all_goals
    go_wp2_with first | ((with_reducible apply wps_load S 8); (case hx | hi | hu => rfl); (case hT => decide +kernel)) | ((with_reducible apply wps_load S 6); (case hx | hi | hu => rfl); (case hT => decide +kernel)) | (go_at_call 92; obtain ⟨Fz, hF, hBk⟩ := S.lend [3] [] [0, 1, 2, 4, 5, 6, 7, 8] rfl rfl rfl; simp only [List.cons_append, List.nil_append, pick, nth] at hF hBk; refine Calls.mono (HM.out _ _ hF) ?_; rintro rr wz ⟨rfl, T⟩; replace S := (hBk _ _ T rfl).pick [1, 2, 3, 0, 4, 5, 6, 7, 8] rfl; clear hBk hF T; simp only [List.cons_append, List.nil_append, pick, nth] at S) | ((with_reducible refine tot_done ?ht ?_); (case ht => kernel_rfl)) | ((with_reducible apply wps_text S); (case hm => kernel_rfl); (case hB => decide +kernel); clear S; intro wz S)
    go_ret
    have S2 := S.pick [1, 2, 3, 7, 4, 5, 6] rfl
    simp only [pick, nth] at S2
    exact ⟨rfl, kernel_close (k := reported k x) (q := q) HQ.out S2⟩
set_option maxRecDepth 100000 in
set_option maxHeartbeats 8000000 in
theorem kdeliver_last (X R : Nat) (vs hs : List Value) (c : Cfg) (g' : LogE) (k : KeE) (d : Int × Int × Int) (x : PkE) (z : Int) (hk : KeRun k) (hd1 : -9223372036854775808 ≤ d.2.2) (hd2 : d.2.2 ≤ 9223372036854775807) (hd : (k.net.way.map (·.no)).Nodup) (hb : boxB k.net.boxes d.2.1 = true) (hx : pickE d.2.1 d.2.2 k.net.way = some x)
    (hkd : x.x.kind = 4) (h0 : 0 ≤ x.from_) (hz : k.ma.reps[x.from_.toNat]? = some z) (hz0 : z < 0) (hno : x.x.no = k.ma.no) (ht : timeB x.x.at_ = true) (hr : k.ma.runs = true) (hall : repAll k.ma x.from_.toNat x.x.at_ = true) (hp : KePub (reported k x)) (hc : CommitsL R vs hs c k.log (reported k x).ma.time (freedK (reported k x).ma.time k.ws) g') (w : World) (F : Nat → Prop) (S0 : St F w w [kernelA X R k, ModA true 110 R vs hs c, Tab]) :
    Calls Tryz.prog 54 #[.pointer (some ⟨X, 0, none⟩), .agg #[.int .i64 d.1, .int .i64 d.2.1, .int .i64 d.2.2]] w fun e w' => e = .returned (.int .i64 0) ∧ St F w w' [kernelA X R (published g' (reported k x))] := by
  obtain ⟨q, hq, S⟩ := kernel_open S0
  clear S0
  have HP := Lib.hid fun w F S0 => netpick_ok q.nt k.net d.2.1 d.2.2 x hd1 hd2 hd hk.way hb hx w F S0
  have HM := Lib.hid fun w F S0 => mreport_calls q.ma k.ma x.from_.toNat x.x.at_ z w F S0 (by rw [hk.reps]; exact hk.many) hz hz0 ht hr
  rw [show ((x.from_.toNat : Nat) : Int) = x.from_ by omega, ← hno, hall] at HM
  have HPB := Lib.hid fun w F S0 => kpublish_calls X R vs hs c (reported k x) g' hp hc w F S0
  have HQ := Lib.hid hq
  have f0 : (x.x.kind == 0) = false := by rw [hkd]; rfl
  have f1 : (x.x.kind == 1) = false := by rw [hkd]; rfl
  have f2 : (x.x.kind == 2) = false := by rw [hkd]; rfl
  have f3 : (x.x.kind == 3) = false := by rw [hkd]; rfl
  clear hk hq hkd hd1 hd2 hd hb hx hno hz hz0 ht hr hall h0 hp hc
  unfold kernelBlk at S
  go_enter Tryz.func54, Tryz.ntmps54
  go_upto_region 1 with first | ((with_reducible apply wps_boxa (E := 23) S); (case hx => rfl); clear S; intro b3 wz S)
  replace S := S.pick [0, 1, 2, 3, 5, 6, 7, 8, 9, 4] rfl
  simp only [pick, nth] at S
  (refine wp_region_wt (soft := [0, 1, 2, 3, 4, 5, 6, 7]) (L := [_, _, _, _, _, _, _, _, _]) (T := [_]) S ?hm ?hB ?_); (case hm => kernel_rfl); (case hB => decide +kernel); clear S
  iterate 8
    (with_reducible apply softs_cons)
    (case hw =>
      (with_reducible apply soft_of); (case hi => rfl)
      intro T wz S
      simp only [List.cons_append, List.nil_append] at S
      go_wp2_with first | ((with_reducible apply wps_load S 6); (case hx | hi | hu => rfl); (case hT => decide +kernel)) | ((with_reducible apply wps_load S 0); (case hx | hi | hu => rfl); (case hT => decide +kernel)) | ((with_reducible refine tot_done ?ht ?_); (case ht => kernel_rfl))
      exact ⟨rfl, S⟩)
    (case hs => exact ⟨_, rfl, by kernel_rfl⟩)
  refine softs_nil ?_
  (with_reducible apply W_hard2 (i := 8) (i' := 12)); (case hn => rfl); (case hr => decide +kernel)
  focus
    intro wz S
    (with_reducible apply hard_of); (case hi => rfl)
    simp only [List.cons_append, List.nil_append] at S
    go_wp2_with first | (go_at_call 87; obtain ⟨Fz, hF, hBk⟩ := S.lend [9] [] [0, 1, 2, 3, 4, 5, 6, 7, 8] rfl rfl rfl; simp only [List.cons_append, List.nil_append, pick, nth] at hF hBk; refine Calls.mono (HP.out _ _ hF) ?_; rintro rr wz ⟨rfl, T⟩; replace S := (hBk _ _ T rfl).pick [1, 2, 3, 4, 5, 6, 7, 8, 9, 0] rfl; clear hBk hF T; simp only [List.cons_append, List.nil_append, pick, nth] at S) | ((with_reducible refine tot_done ?ht ?_); (case ht => kernel_rfl))
    refine ⟨_, S, ?_⟩
    clear S
    (refine W_mid (f := 3) (soft := [9, 10, 11]) rfl ?hB ?_); (case hB => decide +kernel)
    iterate 3
      (with_reducible apply softs_cons)
      (case hw =>
        (with_reducible apply soft_of); (case hi => rfl)
        intro T wz S
        simp only [List.cons_append, List.nil_append] at S
        go_wp2_with first | ((with_reducible refine tot_done ?ht ?_); (case ht => kernel_rfl))
        exact ⟨rfl, S⟩)
      (case hs => exact ⟨_, rfl, by kernel_rfl⟩)
    refine softs_nil ?_
    (with_reducible apply W_hard1 (i := 12)); (case hn => rfl); (case hr => decide +kernel)
    intro wz S
    (with_reducible apply hard_of); (case hi => rfl)
    simp only [List.cons_append, List.nil_append] at S
    go_wp2_with first | ((with_reducible apply wps_alloca (E := 100) S); (case hz => exact Tryz.zeroValue100); clear S; intro b5 wz S) | ((with_reducible refine tot_done ?ht ?_); (case ht => kernel_rfl))
    refine ⟨_, S.pick [1, 2, 3, 4, 5, 6, 7, 8, 9, 10, 0] rfl, ?_⟩
    clear S
    (with_reducible apply W_hard1 (i := 13)); (case hn => rfl); (case hr => decide +kernel)
    intro wz S
    (with_reducible apply hard_of); (case hi => rfl)
    simp only [List.cons_append, List.nil_append] at S
    go_wp2_with first | ((with_reducible apply wps_storea (T := 100) S 10 (vs := [.int .i64 x.no, .int .i64 x.from_, .int .i64 x.to_, .int .i64 x.x.kind, .int .i64 x.x.m.ev.key.at_, .int .i64 x.x.m.ev.key.src, .int .i64 x.x.m.ev.key.sent, .int .i64 x.x.m.ev.key.no, .int .i64 x.x.m.ev.dst, .int .i64 x.x.m.ev.kind, .int .i64 x.x.m.ev.data, .bool x.x.m.anti, .int .i64 x.x.no, .int .i64 x.x.at_]) (m := 14)); (case hx | hy | hi | hm | h1 => rfl); (case hn => exact Nat.le_of_ble_eq_true rfl); (case hT => decide +kernel); clear S; intro wz S; simp only [List.set_cons_zero, List.set_cons_succ, setAll, List.setIfInBounds_toArray] at S) | ((with_reducible refine tot_done ?ht ?_); (case ht => kernel_rfl))
    refine ⟨_, S, ?_⟩
    clear S
    (refine W_mid (f := 0) (soft := [14]) rfl ?hB ?_); (case hB => decide +kernel)
    iterate 1
      (with_reducible apply softs_cons)
      (case hw =>
        (with_reducible apply soft_of); (case hi => rfl)
        intro T wz S
        simp only [List.cons_append, List.nil_append] at S
        go_wp2_with first | ((with_reducible refine tot_done ?ht ?_); (case ht => kernel_rfl))
        exact ⟨rfl, S⟩)
      (case hs => exact ⟨_, rfl, by kernel_rfl⟩)
    refine softs_nil ?_
    (with_reducible apply W_done); (case hn => rfl); (case hr => decide +kernel)
    intro wz S
    repeat (first | simp only at S | simp only [pick] at S | simp only [nth] at S | simp only [List.set_cons_succ] at S | simp only [List.set_cons_zero] at S | simp only [List.setIfInBounds_toArray] at S | simp only [setAll] at S | simp only [List.cons_append] at S | simp only [List.nil_append] at S | simp only [List.append_nil] at S)
  rotate_left 1
  focus
    intro wz S
    (with_reducible apply hard_of); (case hi => rfl)
    simp only [List.cons_append, List.nil_append] at S
    go_wp2_with first | ((with_reducible apply wps_alloca (E := 100) S); (case hz => exact Tryz.zeroValue100); clear S; intro b5 wz S) | ((with_reducible refine tot_done ?ht ?_); (case ht => kernel_rfl))
    refine ⟨_, S.pick [1, 2, 3, 4, 5, 6, 7, 8, 9, 10, 0] rfl, ?_⟩
    clear S
    (with_reducible apply W_hard1 (i := 8)); (case hn => rfl); (case hr => decide +kernel)
    intro wz S
    (with_reducible apply hard_of); (case hi => rfl)
    simp only [List.cons_append, List.nil_append] at S
    go_wp2_with first | (go_at_call 87; obtain ⟨Fz, hF, hBk⟩ := S.lend [9] [] [0, 1, 2, 3, 4, 5, 6, 7, 8, 10] rfl rfl rfl; simp only [List.cons_append, List.nil_append, pick, nth] at hF hBk; refine Calls.mono (HP.out _ _ hF) ?_; rintro rr wz ⟨rfl, T⟩; replace S := (hBk _ _ T rfl).pick [1, 2, 3, 4, 5, 6, 7, 8, 9, 0, 10] rfl; clear hBk hF T; simp only [List.cons_append, List.nil_append, pick, nth] at S) | ((with_reducible refine tot_done ?ht ?_); (case ht => kernel_rfl))
    refine ⟨_, S, ?_⟩
    clear S
    (refine W_mid (f := 2) (soft := [9, 10, 11]) rfl ?hB ?_); (case hB => decide +kernel)
    iterate 3
      (with_reducible apply softs_cons)
      (case hw =>
        (with_reducible apply soft_of); (case hi => rfl)
        intro T wz S
        simp only [List.cons_append, List.nil_append] at S
        go_wp2_with first | ((with_reducible refine tot_done ?ht ?_); (case ht => kernel_rfl))
        exact ⟨rfl, S⟩)
      (case hs => exact ⟨_, rfl, by kernel_rfl⟩)
    refine softs_nil ?_
    (with_reducible apply W_hard1 (i := 13)); (case hn => rfl); (case hr => decide +kernel)
    intro wz S
    (with_reducible apply hard_of); (case hi => rfl)
    simp only [List.cons_append, List.nil_append] at S
    go_wp2_with first | ((with_reducible apply wps_storea (T := 100) S 10 (vs := [.int .i64 x.no, .int .i64 x.from_, .int .i64 x.to_, .int .i64 x.x.kind, .int .i64 x.x.m.ev.key.at_, .int .i64 x.x.m.ev.key.src, .int .i64 x.x.m.ev.key.sent, .int .i64 x.x.m.ev.key.no, .int .i64 x.x.m.ev.dst, .int .i64 x.x.m.ev.kind, .int .i64 x.x.m.ev.data, .bool x.x.m.anti, .int .i64 x.x.no, .int .i64 x.x.at_]) (m := 14)); (case hx | hy | hi | hm | h1 => rfl); (case hn => exact Nat.le_of_ble_eq_true rfl); (case hT => decide +kernel); clear S; intro wz S; simp only [List.set_cons_zero, List.set_cons_succ, setAll, List.setIfInBounds_toArray] at S) | ((with_reducible refine tot_done ?ht ?_); (case ht => kernel_rfl))
    refine ⟨_, S, ?_⟩
    clear S
    (refine W_mid (f := 0) (soft := [14]) rfl ?hB ?_); (case hB => decide +kernel)
    iterate 1
      (with_reducible apply softs_cons)
      (case hw =>
        (with_reducible apply soft_of); (case hi => rfl)
        intro T wz S
        simp only [List.cons_append, List.nil_append] at S
        go_wp2_with first | ((with_reducible refine tot_done ?ht ?_); (case ht => kernel_rfl))
        exact ⟨rfl, S⟩)
      (case hs => exact ⟨_, rfl, by kernel_rfl⟩)
    refine softs_nil ?_
    (with_reducible apply W_done); (case hn => rfl); (case hr => decide +kernel)
    intro wz S
    repeat (first | simp only at S | simp only [pick] at S | simp only [nth] at S | simp only [List.set_cons_succ] at S | simp only [List.set_cons_zero] at S | simp only [List.setIfInBounds_toArray] at S | simp only [setAll] at S | simp only [List.cons_append] at S | simp only [List.nil_append] at S | simp only [List.append_nil] at S)
  all_goals
    go_wp2_with first | ((with_reducible apply wps_load S 10); (case hx | hi | hu => rfl); (case hT => decide +kernel)) | ((with_reducible apply wps_load S 6); (case hx | hi | hu => rfl); (case hT => decide +kernel)) | (go_at_call 92; obtain ⟨Fz, hF, hBk⟩ := S.lend [3] [] [0, 1, 2, 4, 5, 6, 7, 8, 9, 10] rfl rfl rfl; simp only [List.cons_append, List.nil_append, pick, nth] at hF hBk; refine Calls.mono (HM.out _ _ hF) ?_; rintro rr wz ⟨rfl, T⟩; replace S := (hBk _ _ T rfl).pick [1, 2, 3, 0, 4, 5, 6, 7, 8, 9, 10] rfl; clear hBk hF T; simp only [List.cons_append, List.nil_append, pick, nth] at S) | (go_at_call 93; have S2 := S.pick [1, 2, 3, 9, 4, 5, 6, 7, 8] rfl; simp only [pick, nth] at S2; have S3 := kernel_close (k := reported k x) (q := q) HQ.out S2; clear S S2; obtain ⟨Fz, hF, hBk⟩ := S3.lend [0] [1, 2] [] rfl rfl rfl; simp only [List.cons_append, List.nil_append, pick, nth] at hF hBk; refine Calls.mono (HPB.out _ _ hF) ?_; rintro rr wz ⟨rfl, T⟩; have S := hBk _ _ T rfl; clear hBk hF T S3; simp only [List.cons_append, List.nil_append] at S) | ((with_reducible refine tot_done ?ht ?_); (case ht => kernel_rfl)) | ((with_reducible apply wps_text S); (case hm => kernel_rfl); (case hB => decide +kernel); clear S; intro wz S)
    go_ret
    exact ⟨rfl, S⟩
end Go.Proofs.YtmjljoaakdocaaaGreatDoor
/- The walks of a kernel's one and Do. -/
namespace Go.Proofs.YtmjljoaakdocaaaGreatDoor
open Go Go.RowKit Reg Mem

def DoesK (X R : Nat) (vs hs : List Value) (c : Cfg) (k k' : KeE) (f : FuncId) (what a b : Int) : Prop :=
  ∀ (w : World) (F : Nat → Prop), St F w w [kernelA X R k, ModA true 110 R vs hs c, Tab] → Calls Tryz.prog f #[.pointer (some ⟨X, 0, none⟩), .agg #[.int .i64 what, .int .i64 a, .int .i64 b]] w fun e w' => e = .returned (.int .i64 0) ∧ St F w w' [kernelA X R k']
set_option maxRecDepth 100000 in
set_option maxHeartbeats 8000000 in
theorem kone_round (X R : Nat) (vs hs : List Value) (c : Cfg) (k k' : KeE) (a b : Int) (hov : k.over = false) (HT : Hid (DoesK X R vs hs c k k' 55 2 a b)) : DoesK X R vs hs c k k' 30 2 a b := by
  intro w F S0
  obtain ⟨q, hq, S⟩ := kernel_open S0
  clear S0
  have HQ := Lib.hid hq
  have e1 : kernelBlk false X k q = Blk false X #[.pointer (some ⟨q.lg, 0, none⟩), q.v, .pointer (some ⟨q.nt, 0, none⟩), .pointer (some ⟨q.ma, 0, none⟩), .pointer (some ⟨q.bu, 0, none⟩), .int .i64 k.window, .int .i64 k.fan, .bool false] 65 := by
    unfold kernelBlk; rw [hov]
  rw [e1] at S
  have HE := Lib.hid e1
  clear e1 hq hov
  go_enter Tryz.func30, Tryz.ntmps30
  go_wp2_with first | ((with_reducible apply wps_boxa (E := 23) S); (case hx => rfl); clear S; intro b3 wz S) | ((with_reducible apply wps_load S 7); (case hx | hi | hu => rfl); (case hT => decide +kernel)) | ((with_reducible apply wps_alloca (E := 150) S); (case hz => exact Tryz.zeroValue150); clear S; intro b5 wz S) | ((with_reducible apply wps_storea (T := 150) S 0 (vs := [.func (.func 53) #[] #[], .func (.func 54) #[] #[], .func (.func 55) #[] #[], .func (.func 56) #[] #[]]) (m := 4)); (case hx | hy | hi | hm | h1 => rfl); (case hn => exact Nat.le_of_ble_eq_true rfl); (case hT => decide +kernel); clear S; intro wz S; simp only [List.set_cons_zero, List.set_cons_succ, setAll, List.setIfInBounds_toArray] at S) | ((with_reducible apply wps_load S 1); (case hx | hi | hu => rfl); (case hT => decide +kernel)) | ((with_reducible apply wps_load S 0); (case hx | hi | hu => rfl); (case hT => decide +kernel)) | ((with_reducible apply wps_loada (T := 23) (k := 3) S 1); (case hx | hi => rfl); (case hk => exact Nat.le_of_ble_eq_true rfl); (case hT => decide +kernel)) | (go_at_call 55; have S2 := S.pick [2, 3, 4, 5, 6, 7, 8, 9, 10] rfl; simp only [pick, nth] at S2; rw [← HE.out] at S2; have S3 := kernel_close (k := k) (q := q) HQ.out S2; clear S S2; obtain ⟨Fz, hF, hBk⟩ := S3.lend [0] [1, 2] [] rfl rfl rfl; simp only [List.cons_append, List.nil_append, pick, nth] at hF hBk; refine Calls.mono (HT.out _ _ hF) ?_; rintro rr wz ⟨rfl, T⟩; have S := hBk _ _ T rfl; clear hBk hF T S3; simp only [List.cons_append, List.nil_append] at S) | ((with_reducible refine tot_done ?ht ?_); (case ht => kernel_rfl)) | ((with_reducible apply wps_text S); (case hm => kernel_rfl); (case hB => decide +kernel); clear S; intro wz S)
  go_ret
  exact ⟨rfl, S⟩
set_option maxRecDepth 100000 in
set_option maxHeartbeats 8000000 in
theorem kone_deliver (X R : Nat) (vs hs : List Value) (c : Cfg) (k k' : KeE) (a b : Int) (hov : k.over = false) (HT : Hid (DoesK X R vs hs c k k' 54 1 a b)) : DoesK X R vs hs c k k' 30 1 a b := by
  intro w F S0
  obtain ⟨q, hq, S⟩ := kernel_open S0
  clear S0
  have HQ := Lib.hid hq
  have e1 : kernelBlk false X k q = Blk false X #[.pointer (some ⟨q.lg, 0, none⟩), q.v, .pointer (some ⟨q.nt, 0, none⟩), .pointer (some ⟨q.ma, 0, none⟩), .pointer (some ⟨q.bu, 0, none⟩), .int .i64 k.window, .int .i64 k.fan, .bool false] 65 := by
    unfold kernelBlk; rw [hov]
  rw [e1] at S
  have HE := Lib.hid e1
  clear e1 hq hov
  go_enter Tryz.func30, Tryz.ntmps30
  go_wp2_with first | ((with_reducible apply wps_boxa (E := 23) S); (case hx => rfl); clear S; intro b3 wz S) | ((with_reducible apply wps_load S 7); (case hx | hi | hu => rfl); (case hT => decide +kernel)) | ((with_reducible apply wps_alloca (E := 150) S); (case hz => exact Tryz.zeroValue150); clear S; intro b5 wz S) | ((with_reducible apply wps_storea (T := 150) S 0 (vs := [.func (.func 53) #[] #[], .func (.func 54) #[] #[], .func (.func 55) #[] #[], .func (.func 56) #[] #[]]) (m := 4)); (case hx | hy | hi | hm | h1 => rfl); (case hn => exact Nat.le_of_ble_eq_true rfl); (case hT => decide +kernel); clear S; intro wz S; simp only [List.set_cons_zero, List.set_cons_succ, setAll, List.setIfInBounds_toArray] at S) | ((with_reducible apply wps_load S 1); (case hx | hi | hu => rfl); (case hT => decide +kernel)) | ((with_reducible apply wps_load S 0); (case hx | hi | hu => rfl); (case hT => decide +kernel)) | ((with_reducible apply wps_loada (T := 23) (k := 3) S 1); (case hx | hi => rfl); (case hk => exact Nat.le_of_ble_eq_true rfl); (case hT => decide +kernel)) | (go_at_call 54; have S2 := S.pick [2, 3, 4, 5, 6, 7, 8, 9, 10] rfl; simp only [pick, nth] at S2; rw [← HE.out] at S2; have S3 := kernel_close (k := k) (q := q) HQ.out S2; clear S S2; obtain ⟨Fz, hF, hBk⟩ := S3.lend [0] [1, 2] [] rfl rfl rfl; simp only [List.cons_append, List.nil_append, pick, nth] at hF hBk; refine Calls.mono (HT.out _ _ hF) ?_; rintro rr wz ⟨rfl, T⟩; have S := hBk _ _ T rfl; clear hBk hF T S3; simp only [List.cons_append, List.nil_append] at S) | ((with_reducible refine tot_done ?ht ?_); (case ht => kernel_rfl)) | ((with_reducible apply wps_text S); (case hm => kernel_rfl); (case hB => decide +kernel); clear S; intro wz S)
  go_ret
  exact ⟨rfl, S⟩
set_option maxRecDepth 100000 in
set_option maxHeartbeats 8000000 in
theorem kone_over (X R : Nat) (k : KeE) (x : Int × Int × Int) (hov : k.over = true) (w : World) (F : Nat → Prop) (h : (kernelA X R k).at_ w F) :
    Calls Tryz.prog 30 #[.pointer (some ⟨X, 0, none⟩), .agg #[.int .i64 x.1, .int .i64 x.2.1, .int .i64 x.2.2]] w fun e w' => e = .returned (.int .i64 21) ∧ Below w.heap.size w w' := by
  obtain ⟨q, vn, hq, S0⟩ := kernelR h
  have S := S0.pick [0] rfl
  simp only [pick, nth] at S
  clear h S0 hq
  unfold kernelBlk at S
  rw [hov] at S
  clear hov
  go_enter Tryz.func30, Tryz.ntmps30
  go_wp2_with first | ((with_reducible apply wps_boxa (E := 23) S); (case hx => rfl); clear S; intro b3 wz S) | ((with_reducible apply wps_load S 1); (case hx | hi | hu => rfl); (case hT => decide +kernel))
  go_ret
  exact ⟨rfl, S.below⟩
def dothE (x : Int × Int × Int) : List Value := [.int .i64 x.1, .int .i64 x.2.1, .int .i64 x.2.2]
theorem dothElen : ∀ x, (dothE x).length = 3 := fun _ => rfl
def KdRel (X R : Nat) (vs hs : List Value) (c : Cfg) (ks : Nat → KeE) (v : Value) (l : List (Int × Int × Int)) (F : Nat → Prop) (w : World) (i : Value) (wr : World) : Prop :=
  ∃ j : Nat, j ≤ l.length ∧ i = .int .i64 j ∧ St F w wr [kernelA X R (ks j), ModA true 110 R vs hs c, Tab, Sl true dothE 3 v l]
set_option maxRecDepth 100000 in
set_option maxHeartbeats 8000000 in
theorem kdo_calls (X R : Nat) (vs hs : List Value) (c : Cfg) (ks : Nat → KeE) (v : Value) (l : List (Int × Int × Int)) (hstep : ∀ (j : Nat) x, l[j]? = some x → DoesK X R vs hs c (ks j) (ks (j + 1)) 30 x.1 x.2.1 x.2.2) (hn : l.length ≤ 1000) (w : World) (F : Nat → Prop) (S0 : St F w w [kernelA X R (ks 0), ModA true 110 R vs hs c, Tab, Sl true dothE 3 v l]) :
    Calls Tryz.prog 7 #[.pointer (some ⟨X, 0, none⟩), v] w fun e w' => e = .returned (.tuple #[.int .i64 l.length, .int .i64 0]) ∧ St F w w' [kernelA X R (ks l.length)] := by
  have S := S0
  clear S0
  obtain ⟨ad, cv, rfl, _⟩ := (S.sl 3 rfl).elim fun _ h => h.form
  have HS := Lib.hid hstep
  clear hstep
  go_enter Tryz.func7, Tryz.ntmps7
  go_wp2_with first | ((with_reducible apply wps_loada (T := 23) (k := 3) S 0); (case hx | hi => rfl); (case hk => exact Nat.le_of_ble_eq_true rfl); (case hT => decide +kernel))
  go_loopw [13] (fun i wr => KdRel X R vs hs c ks (.slice ad l.length cv) l F w i wr) (fun i _ => l.length - (intOf i).toNat)
  case atStart => exact ⟨0, Nat.zero_le _, rfl, S⟩
  case round =>
    clear S
    obtain ⟨j, hj, rfl, S⟩ := hrel
    by_cases hlt : j < l.length
    · obtain ⟨x, hx⟩ : ∃ x, l[j]? = some x := ⟨_, List.getElem?_eq_getElem hlt⟩
      obtain ⟨Rb, o, rfl⟩ : ∃ R o, ad = some ⟨R, o, none⟩ := (S.sl 3 rfl).elim fun F h => h.head (by omega)
      have hlt2 : (j : Int) < l.length := by omega
      have HX := Lib.hid hx
      have HD := Lib.hid (HS.out j x hx)
      unfold DoesK at HD
      clear hx
      go_wp2_with first | ((with_reducible apply wps_loada_el S 3 (hj := HX.out) (q := 0) (vs := [.int .i64 x.1, .int .i64 x.2.1, .int .i64 x.2.2]) (m := 3)); (case hx | hi => rfl); (case hn => omega); (case hm | hv => rfl); (case hT => decide +kernel)) | ((with_reducible apply wps_alloca (E := 23) S); (case hz => exact Tryz.zeroValue23); clear S; intro b7 wz S) | ((with_reducible apply wps_storea (T := 23) S 0 (vs := [.int .i64 x.1, .int .i64 x.2.1, .int .i64 x.2.2]) (m := 3)); (case hx | hy | hi | hm | h1 => rfl); (case hn => exact Nat.le_of_ble_eq_true rfl); (case hT => decide +kernel); clear S; intro wz S; simp only [List.set_cons_zero, List.set_cons_succ, setAll, List.setIfInBounds_toArray] at S) | ((with_reducible apply wps_loada (T := 23) (k := 3) S 0); (case hx | hi => rfl); (case hk => exact Nat.le_of_ble_eq_true rfl); (case hT => decide +kernel)) | (go_at_call 30; obtain ⟨Fz, hF, hBk⟩ := S.lend [1] [2, 3] [2, 3, 4] rfl rfl rfl; simp only [List.cons_append, List.nil_append, pick, nth] at hF hBk; refine Calls.mono (HD.out _ _ hF) ?_; rintro rr wz ⟨rfl, T⟩; replace S := hBk _ _ T rfl; clear hBk hF T; simp only [List.cons_append, List.nil_append] at S)
      go_roundw
      case rel => exact ⟨j + 1, by omega, by go_num, S⟩
      case measure => first | (simp [intOf]; done) | (simp [intOf]; omega)
    · obtain rfl : j = l.length := by omega
      go_wp2_with first | ((with_reducible apply wps_loada (T := 23) (k := 3) S 0); (case hx | hi => rfl); (case hk => exact Nat.le_of_ble_eq_true rfl); (case hT => decide +kernel))
      (try simp only [Exit.inBlock, Exit.then]); refine bodyPost_ret (results2 rfl (res_tmp rfl) (res_tmp rfl)) rfl ?_
      exact ⟨rfl, S.pick [0] rfl⟩
set_option maxRecDepth 100000 in
set_option maxHeartbeats 8000000 in
theorem kdo_over (X R : Nat) (k : KeE) (v : Value) (x : Int × Int × Int) (hov : k.over = true) (w : World) (F F2 : Nat → Prop) (h : (kernelA X R k).at_ w F) (h2 : (Sl true dothE 3 v [x]).at_ w F2) :
    Calls Tryz.prog 7 #[.pointer (some ⟨X, 0, none⟩), v] w fun e w' => e = .returned (.tuple #[.int .i64 0, .int .i64 21]) ∧ Below w.heap.size w w' := by
  have S : St (fun _ => False) w w [rd (kernelA X R k), Sl true dothE 3 v [x]] := ((St.init _ w).share (A := Sl true dothE 3 v [x]) rfl rfl h2).share (A := rd (kernelA X R k)) rfl rfl h
  clear h h2
  obtain ⟨ad, cv, rfl, _⟩ := (S.sl 1 rfl).elim fun _ h => h.form
  obtain ⟨Rb, o, rfl⟩ : ∃ R o, ad = some ⟨R, o, none⟩ := (S.sl 1 rfl).elim fun F h => h.head (by simp)
  have e1 : ([x] : List (Int × Int × Int)).length = 1 := rfl
  rw [e1] at S ⊢
  have HX : Hid ([x][0]? = some x) := Lib.hid rfl
  have HO := Lib.hid fun w F h => kone_over X R k x hov w F h
  clear hov e1
  go_enter Tryz.func7, Tryz.ntmps7
  go_wp2_with first | ((with_reducible apply wps_loada (T := 23) (k := 3) S 0); (case hx | hi => rfl); (case hk => exact Nat.le_of_ble_eq_true rfl); (case hT => decide +kernel))
  go_loopw [13] (fun i wr => i = .int .i64 0 ∧ St (fun _ => False) w wr [rd (kernelA X R k), Sl true dothE 3 (.slice (some ⟨Rb, o, none⟩) 1 cv) [x]]) (fun i _ => 1 - (intOf i).toNat)
  case atStart => exact ⟨rfl, S⟩
  case round =>
    clear S
    obtain ⟨rfl, S⟩ := hrel
    go_wp2_with first | ((with_reducible apply wps_loada_el S 1 (hj := HX.out) (q := 0) (vs := [.int .i64 x.1, .int .i64 x.2.1, .int .i64 x.2.2]) (m := 3)); (case hx | hi => rfl); (case hn => omega); (case hm | hv => rfl); (case hT => decide +kernel)) | ((with_reducible apply wps_alloca (E := 23) S); (case hz => exact Tryz.zeroValue23); clear S; intro b7 wz S) | ((with_reducible apply wps_storea (T := 23) S 0 (vs := [.int .i64 x.1, .int .i64 x.2.1, .int .i64 x.2.2]) (m := 3)); (case hx | hy | hi | hm | h1 => rfl); (case hn => exact Nat.le_of_ble_eq_true rfl); (case hT => decide +kernel); clear S; intro wz S; simp only [List.set_cons_zero, List.set_cons_succ, setAll, List.setIfInBounds_toArray] at S) | ((with_reducible apply wps_loada (T := 23) (k := 3) S 0); (case hx | hi => rfl); (case hk => exact Nat.le_of_ble_eq_true rfl); (case hT => decide +kernel)) | (go_at_call 30; refine Calls.mono (HO.out _ _ (rd_get (S.get (i := 1) rfl)).choose_spec) ?_; rintro e wz ⟨rfl, hE⟩; replace S := S.ext (Keep.of_below hE); clear hE)
    (try simp only [Exit.inBlock, Exit.then]); refine bodyPost_ret (results2 rfl (res_tmp rfl) (res_tmp rfl)) rfl ?_
    exact ⟨rfl, S.below⟩
end Go.Proofs.YtmjljoaakdocaaaGreatDoor
/- The walk of a kernel's New, where there is one. -/
namespace Go.Proofs.YtmjljoaakdocaaaGreatDoor
open Go Go.RowKit Reg Mem

theorem mnew_ok (workers : Int) (h1 : 1 ≤ workers) (h2 : workers ≤ 8) (w : World) : Calls Tryz.prog 24 #[.int .i64 workers] w fun e w' => ∃ X, e = .returned (.tuple #[.pointer (some ⟨X, 0, none⟩), .int .i64 0]) ∧ St (fun _ => False) w w' [masterA X (newMa workers)] := by
  refine (mnewM_calls workers w).mono ?_
  rintro e w' (⟨h, _⟩ | ⟨_, h⟩)
  · omega
  · exact h
theorem netnew_ok (boxes : Int) (h1 : 1 ≤ boxes) (h2 : boxes ≤ 64) (w : World) : Calls Tryz.prog 27 #[.int .i64 boxes] w fun e w' => ∃ X, e = .returned (.tuple #[.pointer (some ⟨X, 0, none⟩), .int .i64 0]) ∧ St (fun _ => False) w w' [netA X ⟨boxes, 0, []⟩] := by
  refine (netnew_calls boxes w).mono ?_
  rintro e w' (⟨h, _⟩ | ⟨_, h⟩)
  · omega
  · exact h
theorem bunew_ok (room res : Int) (h : 1 ≤ room ∧ room ≤ 4096 ∧ 0 ≤ res ∧ res ≤ room) (w : World) : Calls Tryz.prog 26 #[.int .i64 room, .int .i64 res] w fun e w' => ∃ X, e = .returned (.tuple #[.pointer (some ⟨X, 0, none⟩), .int .i64 0]) ∧ St (fun _ => False) w w' [budgetA X ⟨room, res, cntz⟩] := by
  refine (bunew_calls room res w).mono ?_
  rintro e w' (⟨h2, _⟩ | ⟨_, h⟩)
  · exact absurd h h2
  · exact h
theorem bufit_ok (X : Nat) (b : BuE) (c : CntE) (more : Int) (vital : Bool) (hc : CntOk 1073741824 c) (hm : mayB more = true) (hr : 1 ≤ b.room) (hr2 : b.room ≤ 4096) (hr3 : 0 ≤ b.res) (hr4 : b.res ≤ b.room) (hf : fitE b c more vital = true) (w : World) (F : Nat → Prop) (S0 : St F w w [budgetA X b]) :
    Calls Tryz.prog 29 #[.pointer (some ⟨X, 0, none⟩), .agg #[.int .i64 c.a, .int .i64 c.b, .int .i64 c.c, .int .i64 c.d, .int .i64 c.e], .int .i64 more, .bool vital] w fun e w' => e = .returned (.int .i64 0) ∧ St F w w' [budgetA X (b.fit c)] := by
  refine (bufit_calls X b c more vital hc hm hr hr2 hr3 hr4 w F S0).mono ?_
  rintro e w' (⟨h, _⟩ | ⟨_, h⟩)
  · rw [hf] at h; cases h
  · exact h
structure KcE where
  workers : Int
  every : Int
  lazy : Bool
  window : Int
  room : Int
  res : Int
def newWs (c : Cfg) (d : KcE) (n : Nat) : List WkE := (List.range n).map fun i : Nat => newWk c i d.workers d.every d.lazy
def newK1 (c : Cfg) (d : KcE) : KeE := ⟨newL c, newWs c d d.workers.toNat, ⟨d.workers + 1, 0, []⟩, newMa d.workers, ⟨d.room, d.res, cntz⟩, d.window, c.fan, false⟩
def newK (c : Cfg) (d : KcE) : KeE := { newK1 c d with bu := (newK1 c d).bu.fit (cntK (newK1 c d)) }
theorem newWs_succ (c : Cfg) (d : KcE) (n : Nat) : newWs c d (n + 1) = newWs c d n ++ [newWk c n d.workers d.every d.lazy] := by
  unfold newWs; rw [List.range_succ, List.map_append]; rfl
structure KcOk (c : Cfg) (d : KcE) : Prop where
  w1 : 1 ≤ d.workers
  w2 : d.workers ≤ 8
  ev : 1 ≤ d.every
  win : 0 ≤ d.window
  r1 : 1 ≤ d.room
  r2 : d.room ≤ 4096
  r3 : 0 ≤ d.res
  r4 : d.res ≤ d.room
  lps : c.lps.length ≤ 32
  starts : c.starts.length ≤ 65536
  times : ∀ x ∈ startsFrom 0 c.starts, 0 ≤ x.key.at_ ∧ x.key.at_ ≤ 1073741824
  ok : KeOk (newK1 c d)
  cnt : CntOk 1073741824 (cntK (newK1 c d))
  fit : fitE (newK1 c d).bu (cntK (newK1 c d)) 0 true = true
def KnRel (Ma b3 bX R : Nat) (vs hs : List Value) (c : Cfg) (d : KcE) (w : World) (i : Value) (wr : World) : Prop :=
  ∃ (j : Nat) (v : Value) (ws : List WkAt) (xs : List Nat), (j : Int) ≤ d.workers ∧ i = .int .i64 j ∧ xs.length = j ∧ Hid (ws.map WkAt.x = xs) ∧ Hid (ws.map WkAt.k = newWs c d j) ∧
    St (fun _ => False) w wr [masterA Ma (newMa d.workers), Blk false b3 #[.int .i64 d.workers, .int .i64 d.every, .bool d.lazy, .int .i64 d.window, .int .i64 d.room, .int .i64 d.res] 29, ModA true 110 R vs hs c,
      Blk false bX #[.pointer none, v, .pointer none, .pointer (some ⟨Ma, 0, none⟩), .pointer none, .int .i64 d.window, .int .i64 c.fan, .bool false] 65, Mem.Own 76 wpE 1 v xs, stars (ws.map fun p : WkAt => workerA p.x R p.k)]
def KNewPost (R : Nat) (k : KeE) (w : World) (e : Ending) (w' : World) : Prop :=
  ∃ X, e = .returned (.tuple #[.pointer (some ⟨X, 0, none⟩), .int .i64 0]) ∧ St (fun _ => False) w w' [kernelA X R k]
set_option maxRecDepth 100000 in
set_option maxHeartbeats 8000000 in
theorem knew_calls (R : Nat) (vs hs : List Value) (c : Cfg) (d : KcE) (hk : KcOk c d) (w : World) (F : Nat → Prop) (h : (ModA true 110 R vs hs c).at_ w F) :
    Calls Tryz.prog 6 #[.pointer (some ⟨R, 0, none⟩), .agg #[.int .i64 d.workers, .int .i64 d.every, .bool d.lazy, .int .i64 d.window, .int .i64 d.room, .int .i64 d.res]] w (KNewPost R (newK c d) w) := by
  have S : St (fun _ => False) w w [ModA true 110 R vs hs c] := (St.init _ w).share rfl rfl h
  clear h
  have HK := Lib.hid hk
  have f1 : decide (d.window < 0) = false := decide_eq_false (by have := hk.win; omega)
  have HMN := Lib.hid (mnew_ok d.workers hk.w1 hk.w2)
  have HBN := Lib.hid (bunew_ok d.room d.res ⟨hk.r1, hk.r2, hk.r3, hk.r4⟩)
  have HNN := Lib.hid (netnew_ok (d.workers + 1) (by have := hk.w1; omega) (by have := hk.w2; omega))
  have HLN := Lib.hid fun w F h => lnew_calls R vs hs c w F h hk.lps
  have hw8 := hk.w2
  have hw1 := hk.w1
  clear hk
  go_enter Tryz.func6, Tryz.ntmps6
  go_upto_region 5 with first | ((with_reducible apply wps_boxa (E := 29) S); (case hx => rfl); clear S; intro b3 wz S) | ((with_reducible apply wps_load S 0); (case hx | hi | hu => rfl); (case hT => decide +kernel))
  (refine wp_region_w (soft := [0, 1, 2]) S ?hm ?hB ?_); (case hm => kernel_rfl); (case hB => decide +kernel); clear S
  iterate 3
    (with_reducible apply softs_cons)
    (case hw =>
      (with_reducible apply soft_of); (case hi => rfl)
      intro T wz S
      simp only [List.cons_append, List.nil_append] at S
      go_wp2_with first | ((with_reducible apply wps_load S 0); (case hx | hi | hu => rfl); (case hT => decide +kernel)) | ((with_reducible refine tot_done ?ht ?_); (case ht => kernel_rfl))
      exact ⟨rfl, S⟩)
    (case hs => exact ⟨_, rfl, by kernel_rfl⟩)
  refine softs_nil ?_
  (with_reducible apply W_hard1 (i := 3)); (case hn => rfl); (case hr => decide +kernel)
  intro wz S
  (with_reducible apply hard_of); (case hi => rfl)
  simp only [List.cons_append, List.nil_append] at S
  go_wp2_with first | (go_at_call 23; refine Calls.mono (fan_calls R vs hs c _ _ (S.get (i := 1) rfl).choose_spec) ?_; rintro e wz ⟨rfl, hE⟩; replace S := S.ext (Keep.of_below hE); clear hE) | ((with_reducible refine tot_done ?ht ?_); (case ht => kernel_rfl))
  refine ⟨_, S, ?_⟩
  clear S
  (refine W_mid (f := 2) (soft := [4]) rfl ?hB ?_); (case hB => decide +kernel)
  iterate 1
    (with_reducible apply softs_cons)
    (case hw =>
      (with_reducible apply soft_of); (case hi => rfl)
      intro T wz S
      simp only [List.cons_append, List.nil_append] at S
      go_wp2_with first | ((with_reducible refine tot_done ?ht ?_); (case ht => kernel_rfl))
      exact ⟨rfl, S⟩)
    (case hs => exact ⟨_, rfl, by kernel_rfl⟩)
  refine softs_nil ?_
  (with_reducible apply W_hard1 (i := 5)); (case hn => rfl); (case hr => decide +kernel)
  intro wz S
  (with_reducible apply hard_of); (case hi => rfl)
  simp only [List.cons_append, List.nil_append] at S
  go_wp2_with first | ((with_reducible apply wps_boxa (E := 65) S); (case hx => rfl); clear S; intro bX wz S) | ((with_reducible refine tot_done ?ht ?_); (case ht => kernel_rfl))
  refine ⟨_, S.pick [1, 2, 0] rfl, ?_⟩
  clear S
  (refine W_mid (f := 0) (soft := [6]) rfl ?hB ?_); (case hB => decide +kernel)
  iterate 1
    (with_reducible apply softs_cons)
    (case hw =>
      (with_reducible apply soft_of); (case hi => rfl)
      intro T wz S
      simp only [List.cons_append, List.nil_append] at S
      go_wp2_with first | ((with_reducible refine tot_done ?ht ?_); (case ht => kernel_rfl))
      exact ⟨rfl, S⟩)
    (case hs => exact ⟨_, rfl, by kernel_rfl⟩)
  refine softs_nil ?_
  (with_reducible apply W_done); (case hn => rfl); (case hr => decide +kernel)
  intro wz S
  repeat (first | simp only at S | simp only [pick] at S | simp only [nth] at S | simp only [List.set_cons_succ] at S | simp only [List.set_cons_zero] at S | simp only [List.setIfInBounds_toArray] at S | simp only [setAll] at S | simp only [List.cons_append] at S | simp only [List.nil_append] at S | simp only [List.append_nil] at S)
  all_goals
    go_wp2_with first | ((with_reducible apply wps_load S 0); (case hx | hi | hu => rfl); (case hT => decide +kernel)) | (go_at_call 24; refine Calls.mono (HMN.out _) ?_; rintro rr wz ⟨Ma, rfl, T⟩; replace S := S.join T rfl; clear T; simp only [List.cons_append, List.nil_append] at S) | ((with_reducible apply wps_store (u := (.pointer (some ⟨Ma, 0, none⟩))) S 3); (case hx | hy | hi | h1 => rfl); (case hn => exact Nat.le_of_ble_eq_true rfl); (case hT => decide +kernel); clear S; intro wz S; simp only [List.set_cons_succ, List.set_cons_zero, List.setIfInBounds_toArray] at S) | ((with_reducible apply wps_load S 1); (case hx | hi | hu => rfl); (case hT => decide +kernel))
    replace S := ((S.nil 76 wpE 1).starNil).pick [2, 3, 4, 5, 1, 0] rfl
    simp only [pick, nth] at S
    go_loopw [36] (fun i wr => KnRel Ma b3 bX R vs hs c d w i wr) (fun i _ => d.workers.toNat - (intOf i).toNat)
    case atStart => exact ⟨0, _, [], [], by omega, rfl, rfl, Lib.hid rfl, Lib.hid rfl, S⟩
    case round =>
      clear S
      obtain ⟨j, v, ws, xs, hj, rfl, hwl, HXS, HWS, S⟩ := hrel
      obtain ⟨av, cv, rfl, _⟩ := (S.ownsl wpElen 4 rfl).elim fun _ h => h.form
      by_cases hlt : (j : Int) < d.workers
      · have HWN := Lib.hid fun w F h => wnew_calls R vs hs c j d.workers d.every d.lazy w F h HK.out.lps HK.out.starts hw1 hw8 (by omega) hlt HK.out.ev HK.out.times
        have HWS2 : Hid (∀ W, (ws ++ [(⟨W, newWk c j d.workers d.every d.lazy⟩ : WkAt)]).map WkAt.k = newWs c d (j + 1)) := Lib.hid fun W => by rw [List.map_append, HWS.out, newWs_succ]; rfl
        have hcl : xs.length < 4294967296 := by omega
        have HXL := Lib.hid hwl
        have HXS2 : Hid (∀ W, (ws ++ [(⟨W, newWk c j d.workers d.every d.lazy⟩ : WkAt)]).map WkAt.x = xs ++ [W]) := Lib.hid fun W => by rw [List.map_append, HXS.out]; rfl
        clear hwl
        go_wp2_with first | ((with_reducible apply wps_load S 1); (case hx | hi | hu => rfl); (case hT => decide +kernel)) | (go_at_call 25; refine Calls.mono (HWN.out _ _ (S.get (i := 2) rfl).choose_spec) ?_; rintro rr wz ⟨W, rfl, T⟩; replace S := S.join T rfl; clear T; simp only [List.cons_append, List.nil_append] at S) | ((with_reducible apply wps_load S 4); (case hx | hi | hu => rfl); (case hT => decide +kernel)) | ((with_reducible apply wps_build11 (T := 60) (E := 76) S); (case hx => rfl); (case hr => intro w; kernel_rfl); clear S; intro bz wz S) | ((with_reducible apply wps_append1 elem_Wp wpElen wpEone (by decide) S 6 (j := 0) (e := W)); (case hx | hy | hi | hj | he => rfl); (case hl => exact hcl); clear S; intro az nz cz wz hnz S; simp only [List.set_cons_succ, List.set_cons_zero] at S) | ((with_reducible apply wps_store (u := (.slice az nz cz)) S 5); (case hx | hy | hi | h1 => rfl); (case hn => exact Nat.le_of_ble_eq_true rfl); (case hT => decide +kernel); clear S; intro wz S; simp only [List.set_cons_succ, List.set_cons_zero, List.setIfInBounds_toArray] at S)
        replace S := S.pick [1, 7, 2, 3, 4, 5, 6] rfl
        simp only [pick, nth] at S
        replace S := S.starSnoc rfl
        rw [show (ws.map fun p : WkAt => workerA p.x R p.k) ++ [workerA W R (newWk c j d.workers d.every d.lazy)] = (ws ++ [(⟨W, newWk c j d.workers d.every d.lazy⟩ : WkAt)]).map fun p : WkAt => workerA p.x R p.k by rw [List.map_append]; rfl] at S
        go_roundw
        case rel => exact ⟨j + 1, _, _, _, by omega, by go_num, by rw [List.length_append, HXL.out]; rfl, Lib.hid (HXS2.out W), Lib.hid (HWS2.out W), S.pick [1, 2, 3, 4, 5, 0] rfl⟩
        case measure => simp [intOf]; omega
      · have hjw : (j : Int) = d.workers := by omega
        have HWS3 : Hid (ws.map WkAt.k = (newK1 c d).ws) := Lib.hid (by rw [HWS.out]; show newWs c d j = newWs c d d.workers.toNat; congr 1; omega)
        have HKC := Lib.hid fun X w F h => kcounts_calls X R (newK1 c d) HK.out.ok w F h
        have HFI := Lib.hid fun X w F S0 => bufit_ok X (newK1 c d).bu (cntK (newK1 c d)) 0 true HK.out.cnt (by rfl) HK.out.r1 HK.out.r2 HK.out.r3 HK.out.r4 HK.out.fit w F S0
        simp only at HKC
        obtain ⟨y, hy⟩ : ∃ y, cntK (newK1 c d) = y := ⟨_, rfl⟩
        rw [hy] at HKC HFI
        have HY := Lib.hid hy
        clear hy hjw hwl
        go_upto_region 27 with first | ((with_reducible apply wps_load S 1); (case hx | hi | hu => rfl); (case hT => decide +kernel)) | (go_at_call 26; refine Calls.mono (HBN.out _) ?_; rintro rr wz ⟨Bu, rfl, T⟩; replace S := S.join T rfl; clear T; simp only [List.cons_append, List.nil_append] at S) | ((with_reducible apply wps_store (u := (.pointer (some ⟨Bu, 0, none⟩))) S 4); (case hx | hy | hi | h1 => rfl); (case hn => exact Nat.le_of_ble_eq_true rfl); (case hT => decide +kernel); clear S; intro wz S; simp only [List.set_cons_succ, List.set_cons_zero, List.setIfInBounds_toArray] at S) | ((with_reducible apply wps_load S 2); (case hx | hi | hu => rfl); (case hT => decide +kernel)) | (go_at_call 27; refine Calls.mono (HNN.out _) ?_; rintro rr wz ⟨Nt, rfl, T⟩; replace S := S.join T rfl; clear T; simp only [List.cons_append, List.nil_append] at S) | ((with_reducible apply wps_store (u := (.pointer (some ⟨Nt, 0, none⟩))) S 5); (case hx | hy | hi | h1 => rfl); (case hn => exact Nat.le_of_ble_eq_true rfl); (case hT => decide +kernel); clear S; intro wz S; simp only [List.set_cons_succ, List.set_cons_zero, List.setIfInBounds_toArray] at S) | (go_at_call 28; refine Calls.mono (HLN.out _ _ (S.get (i := 4) rfl).choose_spec) ?_; rintro rr wz ⟨Lg, rfl, T⟩; replace S := S.join T rfl; clear T; simp only [List.cons_append, List.nil_append] at S) | ((with_reducible apply wps_store (u := (.pointer (some ⟨Lg, 0, none⟩))) S 6); (case hx | hy | hi | h1 => rfl); (case hn => exact Nat.le_of_ble_eq_true rfl); (case hT => decide +kernel); clear S; intro wz S; simp only [List.set_cons_succ, List.set_cons_zero, List.setIfInBounds_toArray] at S)
        replace S := S.pick [0, 1, 3, 4, 5, 6, 7, 8, 2] rfl
        simp only [pick, nth] at S
        (refine wp_region_wt (soft := [0, 1, 2, 3, 4]) (L := [_, _, _, _, _, _, _, _]) (T := [_]) S ?hm ?hB ?_); (case hm => kernel_rfl); (case hB => decide +kernel); clear S
        iterate 5
          (with_reducible apply softs_cons)
          (case hw =>
            (with_reducible apply soft_of); (case hi => rfl)
            intro T wz S
            simp only [List.cons_append, List.nil_append] at S
            go_wp2_with first | ((with_reducible apply wps_load S 5); (case hx | hi | hu => rfl); (case hT => decide +kernel)) | ((with_reducible refine tot_done ?ht ?_); (case ht => kernel_rfl))
            exact ⟨rfl, S⟩)
          (case hs => exact ⟨_, rfl, by kernel_rfl⟩)
        refine softs_nil ?_
        (with_reducible apply W_hard1 (i := 5)); (case hn => rfl); (case hr => decide +kernel)
        intro wz S
        (with_reducible apply hard_of); (case hi => rfl)
        simp only [List.cons_append, List.nil_append] at S
        go_wp2_with first | (go_at_call 10; have S2 := S.pick [8, 0, 2, 1, 7, 6, 5] rfl; simp only [pick, nth] at S2; have S3 := kernel_close (k := newK1 c d) (q := ⟨Lg, Nt, Ma, Bu, .slice av xs.length cv, ws⟩) HWS3.out (by rw [show ws.map WkAt.x = xs from HXS.out]; exact S2); refine Calls.mono (HKC.out bX _ _ (S3.get (i := 0) rfl).choose_spec) ?_; clear S2 S3; rintro rr wz ⟨rfl, hE⟩; replace S := S.ext (Keep.of_below hE); clear hE) | ((with_reducible refine tot_done ?ht ?_); (case ht => kernel_rfl))
        refine ⟨_, S, ?_⟩
        clear S
        (with_reducible apply W_hard1 (i := 6)); (case hn => rfl); (case hr => decide +kernel)
        intro wz S
        (with_reducible apply hard_of); (case hi => rfl)
        simp only [List.cons_append, List.nil_append] at S
        go_wp2_with first | (go_at_call 29; obtain ⟨Fz, hF, hBk⟩ := S.lend [8] [] [0, 1, 2, 3, 4, 5, 6, 7] rfl rfl rfl; simp only [List.cons_append, List.nil_append, pick, nth] at hF hBk; refine Calls.mono (HFI.out _ _ _ hF) ?_; rintro rr wz ⟨rfl, T⟩; replace S := (hBk _ _ T rfl).pick [1, 2, 3, 4, 5, 6, 7, 8, 0] rfl; clear hBk hF T; simp only [List.cons_append, List.nil_append, pick, nth] at S) | ((with_reducible refine tot_done ?ht ?_); (case ht => kernel_rfl))
        refine ⟨_, S, ?_⟩
        clear S
        (refine W_mid (f := 0) (soft := [7]) rfl ?hB ?_); (case hB => decide +kernel)
        iterate 1
          (with_reducible apply softs_cons)
          (case hw =>
            (with_reducible apply soft_of); (case hi => rfl)
            intro T wz S
            simp only [List.cons_append, List.nil_append] at S
            go_wp2_with first | ((with_reducible refine tot_done ?ht ?_); (case ht => kernel_rfl))
            exact ⟨rfl, S⟩)
          (case hs => exact ⟨_, rfl, by kernel_rfl⟩)
        refine softs_nil ?_
        (with_reducible apply W_done); (case hn => rfl); (case hr => decide +kernel)
        intro wz S
        repeat (first | simp only at S | simp only [pick] at S | simp only [nth] at S | simp only [List.set_cons_succ] at S | simp only [List.set_cons_zero] at S | simp only [List.setIfInBounds_toArray] at S | simp only [setAll] at S | simp only [List.cons_append] at S | simp only [List.nil_append] at S | simp only [List.append_nil] at S)
        all_goals
          go_wp2_with first | ((with_reducible apply wps_load S 0); (case hx | hi | hu => rfl); (case hT => decide +kernel))
          (try simp only [Exit.inBlock, Exit.then]); refine bodyPost_ret (results2 rfl (res_tmp rfl) (res_tmp rfl)) rfl ?_
          have S2 := S.pick [8, 0, 2, 1, 7, 6, 5] rfl
          simp only [pick, nth] at S2
          refine ⟨bX, rfl, kernel_close (k := newK c d) (q := ⟨Lg, Nt, Ma, Bu, .slice av xs.length cv, ws⟩) HWS3.out ?_⟩
          unfold newK
          simp only
          rw [HY.out, show ws.map WkAt.x = xs from HXS.out]
          exact S2
end Go.Proofs.YtmjljoaakdocaaaGreatDoor

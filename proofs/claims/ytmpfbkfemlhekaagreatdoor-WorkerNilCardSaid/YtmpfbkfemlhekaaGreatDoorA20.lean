import Derived.Test.YtmpfbkfemlhekaaGreatDoorA19
import Derived.Test.YtmpfbkfemlhekaaGreatDoorA06
import Derived.Test.YtmpfbkfemlhekaaGreatDoorA14
/- The walks of law12's Ints, and of the law's awake (chapter 18). -/
namespace Go.Proofs.YtmpfbkfemlhekaaGreatDoor
open Go Go.RowKit Reg Mem

set_option maxRecDepth 100000 in
theorem zero_Pl : zeroIs Tryz.prog 155 5 (Place.cells ⟨0, ⟨0, 0, 0, 0⟩⟩) := ⟨_, .agg #[.int .i64 0, .int .i64 0, .int .i64 0, .int .i64 0, .int .i64 0], rfl, by kernel_rfl, by kernel_rfl, rfl, by decide⟩
def IntsRel (v1 v2 : Value) (xs ys : List Int) (w : World) (i : Value) (wr : World) : Prop :=
  ∃ j : Nat, j ≤ xs.length ∧ i = .int .i64 j ∧ Hid (∀ q : Nat, q < j → xs[q]? = ys[q]?) ∧ St (fun _ => False) w wr [Sl true intE 1 v2 ys, Sl true intE 1 v1 xs]
set_option maxRecDepth 100000 in
set_option maxHeartbeats 4000000 in
theorem ints_calls (v1 v2 : Value) (xs ys : List Int) (w : World) (F1 F2 : Nat → Prop) (h1 : (Sl true intE 1 v1 xs).at_ w F1) (h2 : (Sl true intE 1 v2 ys).at_ w F2) (hn : xs.length ≤ 65536) (hn2 : ys.length ≤ 65536) :
    Calls Tryz.prog 34 #[v1, v2] w fun r w' => r = .returned (.bool (decide (xs = ys))) ∧ Below w.heap.size w w' := by
  have S : St (fun _ => False) w w [Sl true intE 1 v2 ys, Sl true intE 1 v1 xs] := ((St.init _ w).share rfl rfl h1).share rfl rfl h2
  obtain ⟨ad2, c2, rfl, _⟩ := (S.sl 0 rfl).elim fun _ h => h.form
  obtain ⟨ad1, c1, rfl, _⟩ := (S.sl 1 rfl).elim fun _ h => h.form
  clear h1 h2
  by_cases hl : xs.length = ys.length
  · have hl2 : (xs.length : Int) = ys.length := by omega
    have HL := Lib.hid hl
    clear hl
    go_enter Tryz.func34, Tryz.ntmps34
    go_wp2_with first | ((with_reducible refine tot_done ?ht ?_); (case ht => kernel_rfl)) | ((with_reducible apply wps_text S); (case hm => kernel_rfl); (case hB => decide +kernel); clear S; intro wz S) | ((with_reducible apply wps_load S 0); (case hx | hi | hu => rfl); (case hT => decide +kernel))
    go_loopw [5] (fun i wr => IntsRel (.slice ad1 xs.length c1) (.slice ad2 ys.length c2) xs ys w i wr) (fun i _ => xs.length - (intOf i).toNat)
    case atStart => exact ⟨0, Nat.zero_le _, rfl, Lib.hid fun q h => by omega, S⟩
    case round =>
      clear S
      obtain ⟨j, hj, rfl, He, S⟩ := hrel
      by_cases hlt : j < xs.length
      · obtain ⟨x, hx⟩ : ∃ x, xs[j]? = some x := ⟨_, List.getElem?_eq_getElem hlt⟩
        obtain ⟨y, hy⟩ : ∃ y, ys[j]? = some y := ⟨_, List.getElem?_eq_getElem (by have := HL.out; omega)⟩
        obtain ⟨R1, o1, rfl⟩ : ∃ R o, ad1 = some ⟨R, o, none⟩ := (S.sl 1 rfl).elim fun F h => h.head (by omega)
        obtain ⟨R2, o2, rfl⟩ : ∃ R o, ad2 = some ⟨R, o, none⟩ := (S.sl 0 rfl).elim fun F h => h.head (by have := HL.out; omega)
        have hlt2 : (j : Int) < xs.length := by omega
        have hlt3 : (j : Int) < ys.length := by omega
        have hlt4 : j < ys.length := by omega
        by_cases hxy : x = y
        · have HN : (x != y) = false := by simp [hxy]
          have HXY := Lib.hid hxy
          clear hxy
          have Hx := Lib.hid hx
          have Hy := Lib.hid hy
          clear hx hy
          go_wp2_with first | ((with_reducible apply wps_load_el S 1 (hj := Hx.out) (q := 0) (u := .int .i64 x)); (case hx | hi => rfl); (case hn => omega); (case hu => rfl); (case hT => decide +kernel)) | ((with_reducible apply wps_load_el S 0 (hj := Hy.out) (q := 0) (u := .int .i64 y)); (case hx | hi => rfl); (case hn => omega); (case hu => rfl); (case hT => decide +kernel)) | ((with_reducible refine tot_done ?ht ?_); (case ht => kernel_rfl)) | ((with_reducible apply wps_text S); (case hm => kernel_rfl); (case hB => decide +kernel); clear S; intro wz S) | ((with_reducible apply wps_load S 0); (case hx | hi | hu => rfl); (case hT => decide +kernel))
          go_roundw
          case rel =>
            refine ⟨j + 1, by omega, by go_num, Lib.hid fun q hq => ?_, S⟩
            by_cases e : q = j
            · subst e; rw [Hx.out, Hy.out, HXY.out]
            · exact He.out q (by omega)
          case measure => first | (simp [intOf]; done) | (simp [intOf]; omega)
        · have HN : (x != y) = true := by simp [hxy]
          have HXY := Lib.hid hxy
          clear hxy
          have Hx := Lib.hid hx
          have Hy := Lib.hid hy
          clear hx hy
          go_wp2_with first | ((with_reducible apply wps_load_el S 1 (hj := Hx.out) (q := 0) (u := .int .i64 x)); (case hx | hi => rfl); (case hn => omega); (case hu => rfl); (case hT => decide +kernel)) | ((with_reducible apply wps_load_el S 0 (hj := Hy.out) (q := 0) (u := .int .i64 y)); (case hx | hi => rfl); (case hn => omega); (case hu => rfl); (case hT => decide +kernel)) | ((with_reducible refine tot_done ?ht ?_); (case ht => kernel_rfl)) | ((with_reducible apply wps_text S); (case hm => kernel_rfl); (case hB => decide +kernel); clear S; intro wz S) | ((with_reducible apply wps_load S 0); (case hx | hi | hu => rfl); (case hT => decide +kernel))
          go_ret
          exact ⟨ret_bool (by symm; rw [decide_eq_false_iff_not]; rintro rfl; rw [Hx.out] at Hy; exact HXY.out (Option.some.inj Hy.out)), S.below⟩
      · obtain rfl : j = xs.length := by omega
        go_wp2_with first | ((with_reducible refine tot_done ?ht ?_); (case ht => kernel_rfl)) | ((with_reducible apply wps_text S); (case hm => kernel_rfl); (case hB => decide +kernel); clear S; intro wz S) | ((with_reducible apply wps_load S 0); (case hx | hi | hu => rfl); (case hT => decide +kernel))
        go_ret
        refine ⟨ret_bool ?_, S.below⟩
        symm
        rw [decide_eq_true_eq]
        refine List.ext_getElem? fun q => ?_
        by_cases hq : q < xs.length
        · exact He.out q hq
        · have := HL.out
          rw [List.getElem?_eq_none (by omega), List.getElem?_eq_none (by omega)]
  · have hl2 : ¬ (xs.length : Int) = ys.length := by omega
    have HL := Lib.hid hl
    clear hl
    go_enter Tryz.func34, Tryz.ntmps34
    go_wp2_with first | ((with_reducible refine tot_done ?ht ?_); (case ht => kernel_rfl)) | ((with_reducible apply wps_text S); (case hm => kernel_rfl); (case hB => decide +kernel); clear S; intro wz S) | ((with_reducible apply wps_load S 0); (case hx | hi | hu => rfl); (case hT => decide +kernel))
    go_ret
    exact ⟨ret_bool (by symm; rw [decide_eq_false_iff_not]; rintro rfl; exact HL.out rfl), S.below⟩
theorem sls_none (w : World) : (Sls true Instr.cells 5 [.slice none 0 0] [[]]).at_ w (fun b => b < w.heap.size) :=
  sls_one ⟨⟨none, 0, rfl, Nat.le_refl _, fun _ => rfl, fun i y h => by simp at h⟩, fun _ h => h⟩
def wk18 : Cfg := ⟨[[]], List.replicate 5 ⟨0, ⟨0, 0, 0, 0⟩⟩, [⟨3, 4, 0, 0⟩, ⟨3, 4, 0, 0⟩, ⟨2, 1, 0, 0⟩], 9, 1, 0⟩
theorem wk18_ok : cfgE wk18 = 0 := by decide +kernel
theorem wk18_mid : Mid wk18 := ⟨by decide, by decide, by decide⟩
theorem wk18_mid2 : ∀ p ∈ wk18.programs, p.length ≤ 65536 := by decide
def wk18W : WkE := newWk wk18 1 2 1 false
theorem wk18_ids : wk18W.ps.map (·.1) = [1, 3] := by decide +kernel
theorem wk18_few : (wk18W.ps.all fun q => decide (q.2.evs.length ≤ 65536)) = true := by decide +kernel
theorem wk18_wk : WkOk wk18W := ⟨by rw [wk18_ids]; decide, by rw [← List.length_map, wk18_ids]; decide, fun q hq => by simpa using List.all_eq_true.1 wk18_few q hq⟩
theorem wk18_turn : turnE wk18W.ps 9 = some (4, 3) := by decide +kernel
theorem wk18_many : manyAt 4 (evsAt wk18W.ps 3) = 2 := by decide +kernel
theorem wk18_turnV : turnV wk18W.ps 9 = .tuple #[.agg #[.int .i64 4, .int .i64 3, .int .i64 2], .bool true] := by unfold turnV; rw [wk18_turn]; simp only [wk18_many]; rfl
theorem wk18_evs : ∀ x ∈ startsFrom 0 wk18.starts, 0 ≤ x.key.at_ ∧ x.key.at_ ≤ 1073741824 := by decide +kernel
set_option maxRecDepth 100000 in
set_option maxHeartbeats 8000000 in
theorem awake18_calls (w : World) (F : Nat → Prop) (ht : Tab.at_ w F) : Calls Tryz.prog 9 #[] w fun r w' => r = .returned (.bool true) ∧ Below w.heap.size w w' := by
  have S : St (fun _ => False) w w [Tab] := (St.init _ w).share rfl rfl ht
  clear ht
  have HW := Lib.hid fun (R : Nat) (vs hs : List Value) (w : World) (F : Nat → Prop) (h : (ModA true 106 R vs hs wk18).at_ w F) => wnew_calls R vs hs wk18 1 2 1 false w F h (by decide) (by decide) (by decide) (by decide) (by decide) (by decide) (by decide) wk18_evs
  have HN := Lib.hid fun (W R : Nat) (w : World) (F : Nat → Prop) (h : (workerA W R wk18W).at_ w F) => wnext_calls W R wk18W wk18_wk 9 w F h
  rw [wk18_turnV] at HN
  have HL := Lib.hid fun (W R : Nat) (w : World) (F : Nat → Prop) (h : (workerA W R wk18W).at_ w F) => wlps_calls W R wk18W (Nat.le_trans wk18_wk.many (by decide)) w F h
  rw [sortZ_self wk18_wk.up, wk18_ids] at HL
  have HH := Lib.hid fun w => home_calls 3 2 (by decide) (by decide) w
  rw [show homeOf 3 2 = 1 by decide] at HH
  change Hid (∀ (R : Nat) (vs hs : List Value) (w : World) (F : Nat → Prop) (h : (ModA true 106 R vs hs wk18).at_ w F), Calls Tryz.prog 11 #[.pointer (some ⟨R, 0, none⟩), .int .i64 1, .int .i64 2, .int .i64 1, .bool false] w (WNewPost R wk18W w)) at HW
  go_enter Tryz.func9, Tryz.ntmps9
  go_wp2_with first | go_skip | ((with_reducible refine wpList_skip ?hw ?_); (case hw => with_unfolding_all rfl); simp only [Act.put, List.setIfInBounds_toArray, List.set_cons_succ, List.set_cons_zero]) | ((with_reducible apply wps_buildSlice (T := 22) (E := 153) (cs := #[.slice none 0 0]) S); (case hr => intro w; kernel_rfl); clear S; intro bh wz S) | ((with_reducible apply wps_make plcells Tryz.underlying23 _ zero_Pl S (n := 5)); (case hx | hy => rfl); (case hn => omega); clear S; intro bz wz S) | ((with_reducible apply wps_buildSlice (T := 24) (E := 103) (cs := #[.int .i64 3, .int .i64 4, .int .i64 0, .int .i64 0, .int .i64 3, .int .i64 4, .int .i64 0, .int .i64 0, .int .i64 2, .int .i64 1, .int .i64 0, .int .i64 0]) S); (case hr => intro w; kernel_rfl); clear S; intro bt wz S) | ((with_reducible refine tot_done ?ht ?_); (case ht => kernel_rfl)) | ((with_reducible apply wps_alloca (E := 54) S); (case hz => exact Tryz.zeroValue54); clear S; intro bz wz S) | ((with_reducible apply wps_loada (T := 54) (k := 3) S 0); (case hx | hi => rfl); (case hk => exact Nat.le_of_ble_eq_true rfl); (case hT => decide +kernel))
  replace S := S.freeze true 1 plcells rfl
  simp only [List.set_cons_zero, List.set_cons_succ] at S
  have hcfg : (CfgA true [.slice (some ⟨bh, 0, none⟩) 1 1, .slice (some ⟨bz, 0, none⟩) 5 5, .slice (some ⟨bt, 0, none⟩) 3 3, .int .i64 9, .int .i64 1, .int .i64 0] [.slice none 0 0] wk18).at_ wz (fun b => b < wz.heap.size) :=
    cfg_any (c := wk18) (blk_sl (n := 1) [.slice none 0 0] vcells (S.get (i := 2) rfl).choose_spec rfl rfl) (S.get (i := 1) rfl).choose_spec (blk_sl (n := 3) wk18.starts stcells (S.get (i := 0) rfl).choose_spec rfl rfl) (sls_none wz)
  refine Calls.mono (new_calls _ _ wk18 _ _ _ hcfg (S.get (i := 3) rfl).choose_spec wk18_mid wk18_mid2) ?_
  clear hcfg
  rintro e wz (⟨h, _⟩ | ⟨_, R, vs, hs, rfl, T⟩)
  · exact absurd wk18_ok h
  replace S := ((S.join T rfl).modShare 0 rfl).pick [0, 4] rfl
  repeat (first | simp only at S | simp only [pick] at S | simp only [nth] at S | simp only [List.set_cons_succ] at S | simp only [List.set_cons_zero] at S | simp only [List.setIfInBounds_toArray] at S | simp only [setAll] at S | simp only [List.cons_append] at S | simp only [List.nil_append] at S | simp only [List.append_nil] at S)
  clear T
  go_wp2_with first | go_skip | ((with_reducible refine wpList_skip ?hw ?_); (case hw => with_unfolding_all rfl); simp only [Act.put, List.setIfInBounds_toArray, List.set_cons_succ, List.set_cons_zero]) | (go_at_call 11; refine Calls.mono (HW.out R vs hs _ _ (S.get (i := 0) rfl).choose_spec) ?_; rintro e wz ⟨W, rfl, T⟩; replace S := S.join T rfl; clear T; simp only [List.cons_append, List.nil_append] at S) | (go_at_call 13; refine Calls.mono (HN.out _ _ _ _ (S.get (i := 0) rfl).choose_spec) ?_; rintro e wz ⟨rfl, hE⟩; replace S := S.ext (Keep.of_below hE); clear hE) | ((with_reducible apply wps_alloca (E := 54) S); (case hz => exact Tryz.zeroValue54); clear S; intro b5 wz S) | ((with_reducible apply wps_storea (T := 54) S 0 (vs := [.int .i64 4, .int .i64 3, .int .i64 2]) (m := 3)); (case hx | hy | hi | hm | h1 => rfl); (case hn => exact Nat.le_of_ble_eq_true rfl); (case hT => decide +kernel); clear S; intro wz S; simp only [List.set_cons_zero, List.set_cons_succ, setAll, List.setIfInBounds_toArray] at S) | (go_at_call 12; refine Calls.mono (HL.out _ _ _ _ (S.get (i := 1) rfl).choose_spec) ?_; rintro e wz ⟨ad, c, rfl, T⟩; replace S := S.join T rfl; clear T; simp only [List.cons_append, List.nil_append] at S) | ((with_reducible apply wps_buildSlice (T := 37) (E := 3) (cs := #[.int .i64 1, .int .i64 3]) S); (case hr => intro w; kernel_rfl); clear S; intro bi wz S) | (go_at_call 34; refine Calls.mono (ints_calls _ _ [1, 3] [1, 3] _ _ _ (own_sl (sh := true) intE_len (S.get (i := 1) rfl).choose_spec) (blk_sl (n := 2) [1, 3] intE_len (S.get (i := 0) rfl).choose_spec rfl rfl) (by decide) (by decide)) ?_; rintro e wz ⟨rfl, hE⟩; replace S := S.ext (Keep.of_below hE); clear hE) | ((with_reducible apply wps_loada (T := 54) (k := 3) S 2); (case hx | hi => rfl); (case hk => exact Nat.le_of_ble_eq_true rfl); (case hT => decide +kernel)) | (go_at_call 6; refine Calls.mono (HH.out _) ?_; rintro e wz ⟨rfl, hE⟩; replace S := S.ext (Keep.of_below hE); clear hE) | ((with_reducible refine tot_done ?ht ?_); (case ht => kernel_rfl)) | ((with_reducible apply wps_alloca (E := 54) S); (case hz => exact Tryz.zeroValue54); clear S; intro bz wz S) | ((with_reducible apply wps_loada (T := 54) (k := 3) S 0); (case hx | hi => rfl); (case hk => exact Nat.le_of_ble_eq_true rfl); (case hT => decide +kernel))
  go_ret
  exact ⟨rfl, S.below⟩
end Go.Proofs.YtmpfbkfemlhekaaGreatDoor
/- The walks of a nil worker's methods. -/
namespace Go.Proofs.YtmpfbkfemlhekaaGreatDoor
open Go Go.RowKit Reg Mem

structure OpW where
  ask : Int
  at_ : Int
  m : Message
def OpW.cells (o : OpW) : List Value := .int .i64 o.ask :: .int .i64 o.at_ :: o.m.cells
set_option maxRecDepth 100000 in
theorem wnew_nil (a b c : Int) (l : Bool) (w : World) : Calls Tryz.prog 11 #[.pointer none, .int .i64 a, .int .i64 b, .int .i64 c, .bool l] w fun e w' => e = .returned (.tuple #[.pointer none, .int .i64 2]) ∧ Below w.heap.size w w' := by
  have S := St.init (fun _ => False) w
  go_enter Tryz.func11, Tryz.ntmps11
  go_wp2_with first | ((with_reducible apply wps_loada (T := 48) (k := 7) S 0); (case hx | hi => rfl); (case hk => exact Nat.le_of_ble_eq_true rfl); (case hT => decide +kernel))
  (try simp only [Exit.inBlock, Exit.then]); refine bodyPost_ret (results2 rfl (res_tmp rfl) (res_tmp rfl)) rfl ?_
  exact ⟨rfl, S.below⟩
set_option maxRecDepth 100000 in
set_option maxHeartbeats 4000000 in
theorem wnext_nil (most : Int) (w : World) : Calls Tryz.prog 13 #[.pointer none, .int .i64 most] w fun e w' => e = .returned (.tuple #[.agg #[.int .i64 0, .int .i64 0, .int .i64 0], .bool false]) ∧ Below w.heap.size w w' := by
  have S := St.init (fun _ => False) w
  refine calls_marks Tryz.func13 rfl ?_
  simp only [Tryz.ntmps13, List.size_toArray, List.length_cons, List.length_nil, Nat.reduceAdd, Nat.reduceSub, Array.replicate_succ, Array.replicate_zero, List.push_toArray, List.append_toArray, List.nil_append, List.cons_append]
  go_wp2_with first | ((with_reducible apply wps_alloca (E := 54) S); (case hz => exact Tryz.zeroValue54); clear S; first | (guard_hyp b4 : Nat; intro b6 wz S) | intro b4 wz S) | (go_at_call 12; refine Calls.mono (wlps_nil _) ?_; rintro e wz ⟨rfl, hE⟩; replace S := S.ext (Keep.of_below hE); clear hE)
  go_loopw [7, 16] (fun is i wr => is = .bool false ∧ i = .int .i64 0 ∧ St (fun _ => False) w wr [Blk false b6 #[.int .i64 0, .int .i64 0, .int .i64 0] 54, Blk false b4 #[.int .i64 0, .int .i64 0, .int .i64 0] 54]) (fun _ _ _ => 0)
  case atStart => exact ⟨rfl, rfl, S⟩
  case round =>
    clear S
    obtain ⟨rfl, rfl, S⟩ := hrel
    go_wp2_with first | ((with_reducible apply wps_storea (T := 54) S 1 (vs := [.int .i64 0, .int .i64 0, .int .i64 0]) (m := 3)); (case hx | hy | hi | hm | h1 => rfl); (case hn => exact Nat.le_of_ble_eq_true rfl); (case hT => decide +kernel); clear S; intro wz S; simp only [List.set_cons_zero, List.set_cons_succ, setAll, List.setIfInBounds_toArray] at S)
    exact leaves_ret rfl (results2 rfl (S.resA 1 rfl rfl (by kernel_rfl)) (res_tmp rfl)) ⟨rfl, S.below⟩
set_option maxRecDepth 100000 in
theorem wstep_nil (most : Int) (w : World) : Calls Tryz.prog 14 #[.pointer none, .int .i64 most] w fun e w' => e = .returned (.tuple #[.slice none 0 0, .int .i64 2]) ∧ Below w.heap.size w w' := by
  have S := St.init (fun _ => False) w
  go_enter Tryz.func14, Tryz.ntmps14
  go_wp2_with first | ((with_reducible apply wps_load S 0); (case hx | hi | hu => rfl); (case hT => decide +kernel))
  (try simp only [Exit.inBlock, Exit.then]); refine bodyPost_ret (results2 rfl (res_tmp rfl) (res_tmp rfl)) rfl ?_
  exact ⟨rfl, S.below⟩
set_option maxRecDepth 100000 in
theorem wtake_nil (m : Message) (w : World) : Calls Tryz.prog 15 #[.pointer none, .agg #[.int .i64 m.ev.key.at_, .int .i64 m.ev.key.src, .int .i64 m.ev.key.sent, .int .i64 m.ev.key.no, .int .i64 m.ev.dst, .int .i64 m.ev.kind, .int .i64 m.ev.data, .bool m.anti]] w fun e w' => e = .returned (.tuple #[.slice none 0 0, .int .i64 2]) ∧ Below w.heap.size w w' := by
  have S := St.init (fun _ => False) w
  go_enter Tryz.func15, Tryz.ntmps15
  go_wp2_with first | ((with_reducible apply wps_boxa (E := 50) S); (case hx => rfl); clear S; intro b3 wz S)
  (try simp only [Exit.inBlock, Exit.then]); refine bodyPost_ret (results2 rfl (res_tmp rfl) (res_tmp rfl)) rfl ?_
  exact ⟨rfl, S.below⟩
set_option maxRecDepth 100000 in
theorem wreturn_nil (x : Event) (w : World) : Calls Tryz.prog 16 #[.pointer none, .agg #[.int .i64 x.key.at_, .int .i64 x.key.src, .int .i64 x.key.sent, .int .i64 x.key.no, .int .i64 x.dst, .int .i64 x.kind, .int .i64 x.data]] w fun e w' => e = .returned (.tuple #[.slice none 0 0, .int .i64 2]) ∧ Below w.heap.size w w' := by
  have S := St.init (fun _ => False) w
  go_enter Tryz.func16, Tryz.ntmps16
  go_wp2_with first | ((with_reducible apply wps_boxa (E := 48) S); (case hx => rfl); clear S; intro b3 wz S)
  (try simp only [Exit.inBlock, Exit.then]); refine bodyPost_ret (results2 rfl (res_tmp rfl) (res_tmp rfl)) rfl ?_
  exact ⟨rfl, S.below⟩
set_option maxRecDepth 100000 in
theorem wgive_nil (most : Int) (w : World) : Calls Tryz.prog 17 #[.pointer none, .int .i64 most] w fun e w' => e = .returned (.tuple #[.agg #[.int .i64 0, .int .i64 0, .int .i64 0, .int .i64 0, .int .i64 0, .int .i64 0, .int .i64 0], .slice none 0 0, .int .i64 2]) ∧ Below w.heap.size w w' := by
  have S := St.init (fun _ => False) w
  refine calls_marks Tryz.func17 rfl ?_
  simp only [Tryz.ntmps17, List.size_toArray, List.length_cons, List.length_nil, Nat.reduceAdd, Nat.reduceSub, Array.replicate_succ, Array.replicate_zero, List.push_toArray, List.append_toArray, List.nil_append, List.cons_append]
  go_wp2_with first | ((with_reducible apply wps_alloca (E := 48) S); (case hz => exact Tryz.zeroValue48); clear S; intro b4 wz S) | ((with_reducible apply wps_storea (T := 48) S 0 (vs := [.int .i64 0, .int .i64 0, .int .i64 0, .int .i64 0, .int .i64 0, .int .i64 0, .int .i64 0]) (m := 7)); (case hx | hy | hi | hm | h1 => rfl); (case hn => exact Nat.le_of_ble_eq_true rfl); (case hT => decide +kernel); clear S; intro wz S; simp only [List.set_cons_zero, List.set_cons_succ, setAll, List.setIfInBounds_toArray] at S)
  exact leaves_ret rfl (results3 rfl (S.resA 0 rfl rfl (by kernel_rfl)) (res_tmp rfl) (res_tmp rfl)) ⟨rfl, S.below⟩
set_option maxRecDepth 100000 in
theorem wreport_nil (most : Int) (w : World) : Calls Tryz.prog 18 #[.pointer none, .int .i64 most] w fun e w' => e = .returned (.tuple #[.int .i64 0, .int .i64 2]) ∧ Below w.heap.size w w' := by
  have S := St.init (fun _ => False) w
  go_enter Tryz.func18, Tryz.ntmps18
  go_wp2_with first | ((with_reducible apply wps_load S 0); (case hx | hi | hu => rfl); (case hT => decide +kernel))
  (try simp only [Exit.inBlock, Exit.then]); refine bodyPost_ret (results2 rfl (res_tmp rfl) (res_tmp rfl)) rfl ?_
  exact ⟨rfl, S.below⟩
set_option maxRecDepth 100000 in
theorem wfree_nil (most : Int) (w : World) : Calls Tryz.prog 19 #[.pointer none, .int .i64 most] w fun e w' => e = .returned (.tuple #[.slice none 0 0, .int .i64 2]) ∧ Below w.heap.size w w' := by
  have S := St.init (fun _ => False) w
  go_enter Tryz.func19, Tryz.ntmps19
  go_wp2_with first | ((with_reducible apply wps_load S 0); (case hx | hi | hu => rfl); (case hT => decide +kernel))
  (try simp only [Exit.inBlock, Exit.then]); refine bodyPost_ret (results2 rfl (res_tmp rfl) (res_tmp rfl)) rfl ?_
  exact ⟨rfl, S.below⟩
set_option maxRecDepth 100000 in
theorem wstate_nil (most : Int) (w : World) : Calls Tryz.prog 20 #[.pointer none, .int .i64 most] w fun e w' => e = .returned (.tuple #[.agg #[.int .i64 0, .int .i64 0, .int .i64 0, .int .i64 0], .int .i64 2]) ∧ Below w.heap.size w w' := by
  have S := St.init (fun _ => False) w
  go_enter Tryz.func20, Tryz.ntmps20
  go_wp2_with first | ((with_reducible apply wps_alloca (E := 70) S); (case hz => exact Tryz.zeroValue70); clear S; intro b4 wz S) | ((with_reducible apply wps_storea (T := 70) S 0 (vs := [.int .i64 0, .int .i64 0, .int .i64 0, .int .i64 0]) (m := 4)); (case hx | hy | hi | hm | h1 => rfl); (case hn => exact Nat.le_of_ble_eq_true rfl); (case hT => decide +kernel); clear S; intro wz S; simp only [List.set_cons_zero, List.set_cons_succ, setAll, List.setIfInBounds_toArray] at S)
  (try simp only [Exit.inBlock, Exit.then]); refine bodyPost_ret (results2 rfl (S.resA 0 rfl rfl (by kernel_rfl)) (res_tmp rfl)) rfl ?_
  exact ⟨rfl, S.below⟩
set_option maxRecDepth 100000 in
theorem wlocal_nil (w : World) : Calls Tryz.prog 21 #[.pointer none] w fun e w' => e = .returned (.slice none 0 0) ∧ Below w.heap.size w w' := by
  have S := St.init (fun _ => False) w
  go_enter Tryz.func21, Tryz.ntmps21
  go_wp2_with first | (go_at_call 12; refine Calls.mono (wlps_nil _) ?_; rintro e wz ⟨rfl, hE⟩; replace S := S.ext (Keep.of_below hE); clear hE)
  go_loopw [3, 9] (fun l i wr => l = .slice none 0 0 ∧ i = .int .i64 0 ∧ St (fun _ => False) w wr []) (fun _ _ _ => 0)
  case atStart => exact ⟨rfl, rfl, S⟩
  case round =>
    clear S
    obtain ⟨rfl, rfl, S⟩ := hrel
    go_wp2_with first | ((with_reducible apply wps_load S 0); (case hx | hi | hu => rfl); (case hT => decide +kernel))
    go_ret
    exact ⟨rfl, S.below⟩
set_option maxRecDepth 100000 in
theorem wsettle_nil (w : World) : Calls Tryz.prog 22 #[.pointer none] w fun e w' => e = .returned (.slice none 0 0) ∧ Below w.heap.size w w' := by
  have S := St.init (fun _ => False) w
  go_enter Tryz.func22, Tryz.ntmps22
  go_wp2_with first | (go_at_call 12; refine Calls.mono (wlps_nil _) ?_; rintro e wz ⟨rfl, hE⟩; replace S := S.ext (Keep.of_below hE); clear hE)
  go_loopw [3, 9] (fun l i wr => l = .slice none 0 0 ∧ i = .int .i64 0 ∧ St (fun _ => False) w wr []) (fun _ _ _ => 0)
  case atStart => exact ⟨rfl, rfl, S⟩
  case round =>
    clear S
    obtain ⟨rfl, rfl, S⟩ := hrel
    go_wp2_with first | ((with_reducible apply wps_load S 0); (case hx | hi | hu => rfl); (case hT => decide +kernel))
    go_ret
    exact ⟨rfl, S.below⟩
set_option maxRecDepth 100000 in
theorem wcounts_nil (w : World) : Calls Tryz.prog 23 #[.pointer none] w fun e w' => e = .returned (.agg #[.int .i64 0, .int .i64 0, .int .i64 0, .int .i64 0, .int .i64 0]) ∧ Below w.heap.size w w' := by
  have S := St.init (fun _ => False) w
  go_enter Tryz.func23, Tryz.ntmps23
  go_wp2_with first | ((with_reducible apply wps_alloca (E := 75) S); (case hz => exact Tryz.zeroValue75); clear S; first | (guard_hyp b2 : Nat; intro b3 wz S) | intro b2 wz S) | (go_at_call 12; refine Calls.mono (wlps_nil _) ?_; rintro e wz ⟨rfl, hE⟩; replace S := S.ext (Keep.of_below hE); clear hE)
  go_loopw [10] (fun i wr => i = .int .i64 0 ∧ St (fun _ => False) w wr [Blk false b3 #[.int .i64 0, .int .i64 0, .int .i64 0, .int .i64 0, .int .i64 0] 75, Blk false b2 #[.int .i64 0, .int .i64 0, .int .i64 0, .int .i64 0, .int .i64 0] 75]) (fun _ _ => 0)
  case atStart => exact ⟨rfl, S⟩
  case round =>
    clear S
    obtain ⟨rfl, S⟩ := hrel
    go_wp2_with first | ((with_reducible apply wps_loada (T := 75) (k := 5) S 0); (case hx | hi => rfl); (case hk => exact Nat.le_of_ble_eq_true rfl); (case hT => decide +kernel)) | ((with_reducible apply wps_storea (T := 75) S 1 (vs := [.int .i64 0, .int .i64 0, .int .i64 0, .int .i64 0, .int .i64 0]) (m := 5)); (case hx | hy | hi | hm | h1 => rfl); (case hn => exact Nat.le_of_ble_eq_true rfl); (case hT => decide +kernel); clear S; intro wz S; simp only [List.set_cons_zero, List.set_cons_succ, setAll, List.setIfInBounds_toArray] at S)
    (try simp only [Exit.inBlock, Exit.then]); refine bodyPost_ret (results1 rfl (S.resA 1 rfl rfl (by kernel_rfl))) rfl ?_
    exact ⟨rfl, S.below⟩
set_option maxRecDepth 100000 in
set_option maxHeartbeats 8000000 in
theorem workerNil_calls (o : OpW) (w : World) (F : Nat → Prop) (ht : Tab.at_ w F) : Calls Tryz.prog 4 #[.agg #[.int .i64 o.ask, .int .i64 o.at_, .int .i64 o.m.ev.key.at_, .int .i64 o.m.ev.key.src, .int .i64 o.m.ev.key.sent, .int .i64 o.m.ev.key.no, .int .i64 o.m.ev.dst, .int .i64 o.m.ev.kind, .int .i64 o.m.ev.data, .bool o.m.anti]] w fun r w' => r = .returned (.bool true) ∧ Below w.heap.size w w' := by
  have S : St (fun _ => False) w w [Tab] := (St.init _ w).share rfl rfl ht
  clear ht
  have HE : Hid (ceqs (State.cells ⟨0, 0, 0, 0⟩) (State.cells ⟨0, 0, 0, 0⟩) = true) := Lib.hid (by decide)
  have HE5 : Hid (ceqs [.int .i64 0, .int .i64 0, .int .i64 0, .int .i64 0, .int .i64 0] [.int .i64 0, .int .i64 0, .int .i64 0, .int .i64 0, .int .i64 0] = true) := Lib.hid (by decide)
  go_enter Tryz.func4, Tryz.ntmps4
  go_upto_region 11 with first | ((with_reducible apply wps_boxa (E := 52) S); (case hx => rfl); clear S; intro b1 wz S) | (go_at_call 11; refine Calls.mono (wnew_nil _ _ _ _ _) ?_; rintro e wz ⟨rfl, hE⟩; replace S := S.ext (Keep.of_below hE); clear hE) | ((with_reducible apply wps_load S 0); (case hx | hi | hu => rfl); (case hT => decide +kernel)) | ((with_reducible apply wps_load S 1); (case hx | hi | hu => rfl); (case hT => decide +kernel)) | ((with_reducible apply wps_load S 2); (case hx | hi | hu => rfl); (case hT => decide +kernel)) | ((with_reducible apply wps_loada (T := 50) (k := 8) S 1); (case hx | hi => rfl); (case hk => exact Nat.le_of_ble_eq_true rfl); (case hT => decide +kernel)) | ((with_reducible apply wps_loada (T := 48) (k := 7) S 1); (case hx | hi => rfl); (case hk => exact Nat.le_of_ble_eq_true rfl); (case hT => decide +kernel)) | (go_at_call 13; refine Calls.mono (wnext_nil _ _) ?_; rintro e wz ⟨rfl, hE⟩; replace S := S.ext (Keep.of_below hE); clear hE) | (go_at_call 14; refine Calls.mono (wstep_nil _ _) ?_; rintro e wz ⟨rfl, hE⟩; replace S := S.ext (Keep.of_below hE); clear hE) | (go_at_call 15; refine Calls.mono (wtake_nil o.m _) ?_; rintro e wz ⟨rfl, hE⟩; replace S := S.ext (Keep.of_below hE); clear hE) | (go_at_call 16; refine Calls.mono (wreturn_nil o.m.ev _) ?_; rintro e wz ⟨rfl, hE⟩; replace S := S.ext (Keep.of_below hE); clear hE) | (go_at_call 17; refine Calls.mono (wgive_nil _ _) ?_; rintro e wz ⟨rfl, hE⟩; replace S := S.ext (Keep.of_below hE); clear hE) | (go_at_call 18; refine Calls.mono (wreport_nil _ _) ?_; rintro e wz ⟨rfl, hE⟩; replace S := S.ext (Keep.of_below hE); clear hE) | (go_at_call 19; refine Calls.mono (wfree_nil _ _) ?_; rintro e wz ⟨rfl, hE⟩; replace S := S.ext (Keep.of_below hE); clear hE) | (go_at_call 20; refine Calls.mono (wstate_nil _ _) ?_; rintro e wz ⟨rfl, hE⟩; replace S := S.ext (Keep.of_below hE); clear hE) | ((with_reducible apply wps_alloca (E := 54) S); (case hz => exact Tryz.zeroValue54); clear S; intro b6 wz S) | ((with_reducible apply wps_storea (T := 54) S 0 (vs := [.int .i64 0, .int .i64 0, .int .i64 0]) (m := 3)); (case hx | hy | hi | hm | h1 => rfl); (case hn => exact Nat.le_of_ble_eq_true rfl); (case hT => decide +kernel); clear S; intro wz S; simp only [List.set_cons_zero, List.set_cons_succ, setAll, List.setIfInBounds_toArray] at S) | ((with_reducible apply wps_alloca (E := 48) S); (case hz => exact Tryz.zeroValue48); clear S; intro b14 wz S) | ((with_reducible apply wps_storea (T := 48) S 0 (vs := [.int .i64 0, .int .i64 0, .int .i64 0, .int .i64 0, .int .i64 0, .int .i64 0, .int .i64 0]) (m := 7)); (case hx | hy | hi | hm | h1 => rfl); (case hn => exact Nat.le_of_ble_eq_true rfl); (case hT => decide +kernel); clear S; intro wz S; simp only [List.set_cons_zero, List.set_cons_succ, setAll, List.setIfInBounds_toArray] at S) | ((with_reducible apply wps_alloca (E := 70) S); (case hz => exact Tryz.zeroValue70); clear S; intro b21 wz S) | ((with_reducible apply wps_storea (T := 70) S 0 (vs := [.int .i64 0, .int .i64 0, .int .i64 0, .int .i64 0]) (m := 4)); (case hx | hy | hi | hm | h1 => rfl); (case hn => exact Nat.le_of_ble_eq_true rfl); (case hT => decide +kernel); clear S; intro wz S; simp only [List.set_cons_zero, List.set_cons_succ, setAll, List.setIfInBounds_toArray] at S)
  simp only [List.append_eq, List.cons_append, List.nil_append]
  go_wp2_with first | ((with_reducible apply wps_loada (T := 70) (k := 4) S 0); (case hx | hi => rfl); (case hk => exact Nat.le_of_ble_eq_true rfl); (case hT => decide +kernel)) | ((with_reducible apply wps_loada (T := 48) (k := 7) S 1); (case hx | hi => rfl); (case hk => exact Nat.le_of_ble_eq_true rfl); (case hT => decide +kernel)) | ((with_reducible apply wps_loada (T := 54) (k := 3) S 2); (case hx | hi => rfl); (case hk => exact Nat.le_of_ble_eq_true rfl); (case hT => decide +kernel)) | ((with_reducible apply wpList_eql_agg (t := 70) (ks := [.int .i64, .int .i64, .int .i64, .int .i64]) (b := _)); (case hx | hy => rfl); (case hl | ha | hg => kernel_rfl); (case hfx | hfy => rfl); (case hb => exact HE.out)) | ((with_reducible apply wpList_eql_agg (t := 75) (ks := [.int .i64, .int .i64, .int .i64, .int .i64, .int .i64]) (b := true)); (case hx | hy => rfl); (case hl | ha | hg => kernel_rfl); (case hfx | hfy => rfl); (case hb => exact HE5.out)) | (go_at_call 12; refine Calls.mono (wlps_nil _) ?_; rintro e wz ⟨rfl, hE⟩; replace S := S.ext (Keep.of_below hE); clear hE) | (go_at_call 21; refine Calls.mono (wlocal_nil _) ?_; rintro e wz ⟨rfl, hE⟩; replace S := S.ext (Keep.of_below hE); clear hE) | (go_at_call 22; refine Calls.mono (wsettle_nil _) ?_; rintro e wz ⟨rfl, hE⟩; replace S := S.ext (Keep.of_below hE); clear hE) | (go_at_call 23; refine Calls.mono (wcounts_nil _) ?_; rintro e wz ⟨rfl, hE⟩; replace S := S.ext (Keep.of_below hE); clear hE) | (go_at_call 9; refine Calls.mono (awake18_calls _ _ (S.get (i := 4) rfl).choose_spec) ?_; rintro e wz ⟨rfl, hE⟩; replace S := S.ext (Keep.of_below hE); clear hE)
  go_ret
  exact ⟨rfl, S.below⟩
end Go.Proofs.YtmpfbkfemlhekaaGreatDoor

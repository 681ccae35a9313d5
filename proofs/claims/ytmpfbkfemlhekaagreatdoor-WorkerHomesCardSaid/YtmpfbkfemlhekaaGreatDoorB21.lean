import Derived.Test.YtmpfbkfemlhekaaGreatDoorB20
import Derived.Test.YtmpfbkfemlhekaaGreatDoorB06
import Derived.Test.YtmpfbkfemlhekaaGreatDoorB15
import Derived.Test.YtmpfbkfemlhekaaGreatDoorB18
import Derived.Test.YtmpfbkfemlhekaaGreatDoorB24
/- The walks of law12's Ints, and of the law's awake (chapter 18). -/
namespace Go.Proofs.YtmpfbkfemlhekaaGreatDoor
open Go Go.RowKit Reg Mem

set_option maxRecDepth 100000 in
theorem zero_Pl : zeroIs Tryz.prog 155 5 (Place.cells ⟨0, ⟨0, 0, 0, 0⟩⟩) := ⟨_, .agg #[.int .i64 0, .int .i64 0, .int .i64 0, .int .i64 0, .int .i64 0], rfl, by kernel_rfl, by kernel_rfl, rfl, by decide⟩
def IntsRel (v1 v2 : Value) (xs ys : List Int) (w : World) (i : Value) (wr : World) : Prop :=
  ∃ j : Nat, j ≤ xs.length ∧ i = .int .i64 j ∧ Hid (∀ q : Nat, q < j → xs[q]? = ys[q]?) ∧ St (fun _ => False) w wr [Sl true intE 1 v2 ys, Sl true intE 1 v1 xs]
set_option maxRecDepth 100000 in
set_option maxHeartbeats 4000000 in
theorem ints_calls (v1 v2 : Value) (xs ys : List Int) (w : World) (F1 F2 : Nat → Prop) (h1 : (Sl true intE 1 v1 xs).at_ w F1) (h2 : (Sl true intE 1 v2 ys).at_ w F2) (hn : xs.length ≤ 65536) (hn2 : ys.length ≤ 65536) :
    Calls Tryz.prog 34 #[v1, v2] w fun r w' => r = .returned (.bool (decide (xs = ys))) ∧ Below w.heap.size w w' := by
  have S : St (fun _ => False) w w [Sl true intE 1 v2 ys, Sl true intE 1 v1 xs] := ((St.init _ w).share rfl rfl h1).share rfl rfl h2
  obtain ⟨ad2, c2, rfl, _⟩ := (S.sl 0 rfl).elim fun _ h => h.form
  obtain ⟨ad1, c1, rfl, _⟩ := (S.sl 1 rfl).elim fun _ h => h.form
  clear h1 h2
  by_cases hl : xs.length = ys.length
  · have hl2 : (xs.length : Int) = ys.length := by omega
    have HL := Lib.hid hl
    clear hl
    go_enter Tryz.func34, Tryz.ntmps34
    go_wp2_with first | ((with_reducible refine tot_done ?ht ?_); (case ht => kernel_rfl)) | ((with_reducible apply wps_text S); (case hm => kernel_rfl); (case hB => decide +kernel); clear S; intro wz S) | ((with_reducible apply wps_load S 0); (case hx | hi | hu => rfl); (case hT => decide +kernel))
    go_loopw [5] (fun i wr => IntsRel (.slice ad1 xs.length c1) (.slice ad2 ys.length c2) xs ys w i wr) (fun i _ => xs.length - (intOf i).toNat)
    case atStart => exact ⟨0, Nat.zero_le _, rfl, Lib.hid fun q h => by omega, S⟩
    case round =>
      clear S
      obtain ⟨j, hj, rfl, He, S⟩ := hrel
      by_cases hlt : j < xs.length
      · obtain ⟨x, hx⟩ : ∃ x, xs[j]? = some x := ⟨_, List.getElem?_eq_getElem hlt⟩
        obtain ⟨y, hy⟩ : ∃ y, ys[j]? = some y := ⟨_, List.getElem?_eq_getElem (by have := HL.out; omega)⟩
        obtain ⟨R1, o1, rfl⟩ : ∃ R o, ad1 = some ⟨R, o, none⟩ := (S.sl 1 rfl).elim fun F h => h.head (by omega)
        obtain ⟨R2, o2, rfl⟩ : ∃ R o, ad2 = some ⟨R, o, none⟩ := (S.sl 0 rfl).elim fun F h => h.head (by have := HL.out; omega)
        have hlt2 : (j : Int) < xs.length := by omega
        have hlt3 : (j : Int) < ys.length := by omega
        have hlt4 : j < ys.length := by omega
        by_cases hxy : x = y
        · have HN : (x != y) = false := by simp [hxy]
          have HXY := Lib.hid hxy
          clear hxy
          have Hx := Lib.hid hx
          have Hy := Lib.hid hy
          clear hx hy
          go_wp2_with first | ((with_reducible apply wps_load_el S 1 (hj := Hx.out) (q := 0) (u := .int .i64 x)); (case hx | hi => rfl); (case hn => omega); (case hu => rfl); (case hT => decide +kernel)) | ((with_reducible apply wps_load_el S 0 (hj := Hy.out) (q := 0) (u := .int .i64 y)); (case hx | hi => rfl); (case hn => omega); (case hu => rfl); (case hT => decide +kernel)) | ((with_reducible refine tot_done ?ht ?_); (case ht => kernel_rfl)) | ((with_reducible apply wps_text S); (case hm => kernel_rfl); (case hB => decide +kernel); clear S; intro wz S) | ((with_reducible apply wps_load S 0); (case hx | hi | hu => rfl); (case hT => decide +kernel))
          go_roundw
          case rel =>
            refine ⟨j + 1, by omega, by go_num, Lib.hid fun q hq => ?_, S⟩
            by_cases e : q = j
            · subst e; rw [Hx.out, Hy.out, HXY.out]
            · exact He.out q (by omega)
          case measure => first | (simp [intOf]; done) | (simp [intOf]; omega)
        · have HN : (x != y) = true := by simp [hxy]
          have HXY := Lib.hid hxy
          clear hxy
          have Hx := Lib.hid hx
          have Hy := Lib.hid hy
          clear hx hy
          go_wp2_with first | ((with_reducible apply wps_load_el S 1 (hj := Hx.out) (q := 0) (u := .int .i64 x)); (case hx | hi => rfl); (case hn => omega); (case hu => rfl); (case hT => decide +kernel)) | ((with_reducible apply wps_load_el S 0 (hj := Hy.out) (q := 0) (u := .int .i64 y)); (case hx | hi => rfl); (case hn => omega); (case hu => rfl); (case hT => decide +kernel)) | ((with_reducible refine tot_done ?ht ?_); (case ht => kernel_rfl)) | ((with_reducible apply wps_text S); (case hm => kernel_rfl); (case hB => decide +kernel); clear S; intro wz S) | ((with_reducible apply wps_load S 0); (case hx | hi | hu => rfl); (case hT => decide +kernel))
          go_ret
          exact ⟨ret_bool (by symm; rw [decide_eq_false_iff_not]; rintro rfl; rw [Hx.out] at Hy; exact HXY.out (Option.some.inj Hy.out)), S.below⟩
      · obtain rfl : j = xs.length := by omega
        go_wp2_with first | ((with_reducible refine tot_done ?ht ?_); (case ht => kernel_rfl)) | ((with_reducible apply wps_text S); (case hm => kernel_rfl); (case hB => decide +kernel); clear S; intro wz S) | ((with_reducible apply wps_load S 0); (case hx | hi | hu => rfl); (case hT => decide +kernel))
        go_ret
        refine ⟨ret_bool ?_, S.below⟩
        symm
        rw [decide_eq_true_eq]
        refine List.ext_getElem? fun q => ?_
        by_cases hq : q < xs.length
        · exact He.out q hq
        · have := HL.out
          rw [List.getElem?_eq_none (by omega), List.getElem?_eq_none (by omega)]
  · have hl2 : ¬ (xs.length : Int) = ys.length := by omega
    have HL := Lib.hid hl
    clear hl
    go_enter Tryz.func34, Tryz.ntmps34
    go_wp2_with first | ((with_reducible refine tot_done ?ht ?_); (case ht => kernel_rfl)) | ((with_reducible apply wps_text S); (case hm => kernel_rfl); (case hB => decide +kernel); clear S; intro wz S) | ((with_reducible apply wps_load S 0); (case hx | hi | hu => rfl); (case hT => decide +kernel))
    go_ret
    exact ⟨ret_bool (by symm; rw [decide_eq_false_iff_not]; rintro rfl; exact HL.out rfl), S.below⟩
theorem sls_none (w : World) : (Sls true Instr.cells 5 [.slice none 0 0] [[]]).at_ w (fun b => b < w.heap.size) :=
  sls_one ⟨⟨none, 0, rfl, Nat.le_refl _, fun _ => rfl, fun i y h => by simp at h⟩, fun _ h => h⟩
def wk18 : Cfg := ⟨[[]], List.replicate 5 ⟨0, ⟨0, 0, 0, 0⟩⟩, [⟨3, 4, 0, 0⟩, ⟨3, 4, 0, 0⟩, ⟨2, 1, 0, 0⟩], 9, 1, 0⟩
theorem wk18_ok : cfgE wk18 = 0 := by decide +kernel
theorem wk18_mid : Mid wk18 := ⟨by decide, by decide, by decide⟩
theorem wk18_mid2 : ∀ p ∈ wk18.programs, p.length ≤ 65536 := by decide
def wk18W : WkE := newWk wk18 1 2 1 false
theorem wk18_ids : wk18W.ps.map (·.1) = [1, 3] := by decide +kernel
theorem wk18_few : (wk18W.ps.all fun q => decide (q.2.evs.length ≤ 65536)) = true := by decide +kernel
theorem wk18_wk : WkOk wk18W := ⟨by rw [wk18_ids]; decide, by rw [← List.length_map, wk18_ids]; decide, fun q hq => by simpa using List.all_eq_true.1 wk18_few q hq⟩
theorem wk18_turn : turnE wk18W.ps 9 = some (4, 3) := by decide +kernel
theorem wk18_many : manyAt 4 (evsAt wk18W.ps 3) = 2 := by decide +kernel
theorem wk18_turnV : turnV wk18W.ps 9 = .tuple #[.agg #[.int .i64 4, .int .i64 3, .int .i64 2], .bool true] := by unfold turnV; rw [wk18_turn]; simp only [wk18_many]; rfl
theorem wk18_evs : ∀ x ∈ startsFrom 0 wk18.starts, 0 ≤ x.key.at_ ∧ x.key.at_ ≤ 1073741824 := by decide +kernel
set_option maxRecDepth 100000 in
set_option maxHeartbeats 8000000 in
theorem awake18_calls (w : World) (F : Nat → Prop) (ht : Tab.at_ w F) : Calls Tryz.prog 9 #[] w fun r w' => r = .returned (.bool true) ∧ Below w.heap.size w w' := by
  have S : St (fun _ => False) w w [Tab] := (St.init _ w).share rfl rfl ht
  clear ht
  have HW := Lib.hid fun (R : Nat) (vs hs : List Value) (w : World) (F : Nat → Prop) (h : (ModA true 106 R vs hs wk18).at_ w F) => wnew_calls R vs hs wk18 1 2 1 false w F h (by decide) (by decide) (by decide) (by decide) (by decide) (by decide) (by decide) wk18_evs
  have HN := Lib.hid fun (W R : Nat) (w : World) (F : Nat → Prop) (h : (workerA W R wk18W).at_ w F) => wnext_calls W R wk18W wk18_wk 9 w F h
  rw [wk18_turnV] at HN
  have HL := Lib.hid fun (W R : Nat) (w : World) (F : Nat → Prop) (h : (workerA W R wk18W).at_ w F) => wlps_calls W R wk18W (Nat.le_trans wk18_wk.many (by decide)) w F h
  rw [sortZ_self wk18_wk.up, wk18_ids] at HL
  have HH := Lib.hid fun w => home_calls 3 2 (by decide) (by decide) w
  rw [show homeOf 3 2 = 1 by decide] at HH
  change Hid (∀ (R : Nat) (vs hs : List Value) (w : World) (F : Nat → Prop) (h : (ModA true 106 R vs hs wk18).at_ w F), Calls Tryz.prog 11 #[.pointer (some ⟨R, 0, none⟩), .int .i64 1, .int .i64 2, .int .i64 1, .bool false] w (WNewPost R wk18W w)) at HW
  go_enter Tryz.func9, Tryz.ntmps9
  go_wp2_with first | go_skip | ((with_reducible refine wpList_skip ?hw ?_); (case hw => with_unfolding_all rfl); simp only [Act.put, List.setIfInBounds_toArray, List.set_cons_succ, List.set_cons_zero]) | ((with_reducible apply wps_buildSlice (T := 22) (E := 153) (cs := #[.slice none 0 0]) S); (case hr => intro w; kernel_rfl); clear S; intro bh wz S) | ((with_reducible apply wps_make plcells Tryz.underlying23 _ zero_Pl S (n := 5)); (case hx | hy => rfl); (case hn => omega); clear S; intro bz wz S) | ((with_reducible apply wps_buildSlice (T := 24) (E := 103) (cs := #[.int .i64 3, .int .i64 4, .int .i64 0, .int .i64 0, .int .i64 3, .int .i64 4, .int .i64 0, .int .i64 0, .int .i64 2, .int .i64 1, .int .i64 0, .int .i64 0]) S); (case hr => intro w; kernel_rfl); clear S; intro bt wz S) | ((with_reducible refine tot_done ?ht ?_); (case ht => kernel_rfl)) | ((with_reducible apply wps_alloca (E := 54) S); (case hz => exact Tryz.zeroValue54); clear S; intro bz wz S) | ((with_reducible apply wps_loada (T := 54) (k := 3) S 0); (case hx | hi => rfl); (case hk => exact Nat.le_of_ble_eq_true rfl); (case hT => decide +kernel))
  replace S := S.freeze true 1 plcells rfl
  simp only [List.set_cons_zero, List.set_cons_succ] at S
  have hcfg : (CfgA true [.slice (some ⟨bh, 0, none⟩) 1 1, .slice (some ⟨bz, 0, none⟩) 5 5, .slice (some ⟨bt, 0, none⟩) 3 3, .int .i64 9, .int .i64 1, .int .i64 0] [.slice none 0 0] wk18).at_ wz (fun b => b < wz.heap.size) :=
    cfg_any (c := wk18) (blk_sl (n := 1) [.slice none 0 0] vcells (S.get (i := 2) rfl).choose_spec rfl rfl) (S.get (i := 1) rfl).choose_spec (blk_sl (n := 3) wk18.starts stcells (S.get (i := 0) rfl).choose_spec rfl rfl) (sls_none wz)
  refine Calls.mono (new_calls _ _ wk18 _ _ _ hcfg (S.get (i := 3) rfl).choose_spec wk18_mid wk18_mid2) ?_
  clear hcfg
  rintro e wz (⟨h, _⟩ | ⟨_, R, vs, hs, rfl, T⟩)
  · exact absurd wk18_ok h
  replace S := ((S.join T rfl).modShare 0 rfl).pick [0, 4] rfl
  repeat (first | simp only at S | simp only [pick] at S | simp only [nth] at S | simp only [List.set_cons_succ] at S | simp only [List.set_cons_zero] at S | simp only [List.setIfInBounds_toArray] at S | simp only [setAll] at S | simp only [List.cons_append] at S | simp only [List.nil_append] at S | simp only [List.append_nil] at S)
  clear T
  go_wp2_with first | go_skip | ((with_reducible refine wpList_skip ?hw ?_); (case hw => with_unfolding_all rfl); simp only [Act.put, List.setIfInBounds_toArray, List.set_cons_succ, List.set_cons_zero]) | (go_at_call 11; refine Calls.mono (HW.out R vs hs _ _ (S.get (i := 0) rfl).choose_spec) ?_; rintro e wz ⟨W, rfl, T⟩; replace S := S.join T rfl; clear T; simp only [List.cons_append, List.nil_append] at S) | (go_at_call 13; refine Calls.mono (HN.out _ _ _ _ (S.get (i := 0) rfl).choose_spec) ?_; rintro e wz ⟨rfl, hE⟩; replace S := S.ext (Keep.of_below hE); clear hE) | ((with_reducible apply wps_alloca (E := 54) S); (case hz => exact Tryz.zeroValue54); clear S; intro b5 wz S) | ((with_reducible apply wps_storea (T := 54) S 0 (vs := [.int .i64 4, .int .i64 3, .int .i64 2]) (m := 3)); (case hx | hy | hi | hm | h1 => rfl); (case hn => exact Nat.le_of_ble_eq_true rfl); (case hT => decide +kernel); clear S; intro wz S; simp only [List.set_cons_zero, List.set_cons_succ, setAll, List.setIfInBounds_toArray] at S) | (go_at_call 12; refine Calls.mono (HL.out _ _ _ _ (S.get (i := 1) rfl).choose_spec) ?_; rintro e wz ⟨ad, c, rfl, T⟩; replace S := S.join T rfl; clear T; simp only [List.cons_append, List.nil_append] at S) | ((with_reducible apply wps_buildSlice (T := 37) (E := 3) (cs := #[.int .i64 1, .int .i64 3]) S); (case hr => intro w; kernel_rfl); clear S; intro bi wz S) | (go_at_call 34; refine Calls.mono (ints_calls _ _ [1, 3] [1, 3] _ _ _ (own_sl (sh := true) intE_len (S.get (i := 1) rfl).choose_spec) (blk_sl (n := 2) [1, 3] intE_len (S.get (i := 0) rfl).choose_spec rfl rfl) (by decide) (by decide)) ?_; rintro e wz ⟨rfl, hE⟩; replace S := S.ext (Keep.of_below hE); clear hE) | ((with_reducible apply wps_loada (T := 54) (k := 3) S 2); (case hx | hi => rfl); (case hk => exact Nat.le_of_ble_eq_true rfl); (case hT => decide +kernel)) | (go_at_call 6; refine Calls.mono (HH.out _) ?_; rintro e wz ⟨rfl, hE⟩; replace S := S.ext (Keep.of_below hE); clear hE) | ((with_reducible refine tot_done ?ht ?_); (case ht => kernel_rfl)) | ((with_reducible apply wps_alloca (E := 54) S); (case hz => exact Tryz.zeroValue54); clear S; intro bz wz S) | ((with_reducible apply wps_loada (T := 54) (k := 3) S 0); (case hx | hi => rfl); (case hk => exact Nat.le_of_ble_eq_true rfl); (case hT => decide +kernel))
  go_ret
  exact ⟨rfl, S.below⟩
end Go.Proofs.YtmpfbkfemlhekaaGreatDoor
/- Which worker has which process, plain. -/
namespace Go.Proofs.YtmpfbkfemlhekaaGreatDoor
open Go Go.RowKit Reg Mem

theorem homeOf_nonneg (j w : Int) : 0 ≤ homeOf j w := by
  unfold homeOf
  split
  · exact Int.le_refl _
  · exact Int.emod_nonneg _ (by omega)
theorem homeOf_lt (j : Int) {w : Int} (h : 1 ≤ w) : homeOf j w < w := by
  unfold homeOf
  split
  · omega
  · exact Int.emod_lt_of_pos _ (by omega)
def homesN (n : Nat) (workers i : Int) : List Nat := (List.range n).filter fun j : Nat => homeOf j workers == i
theorem newPs_ids (c : Cfg) (es : List Event) (id workers every : Int) (lazy : Bool) : ∀ n : Nat, (newPs c es id workers every lazy n).map (·.1) = (homesN n workers id).map fun j : Nat => (j : Int)
  | 0 => rfl
  | n + 1 => by
    rw [newPs_succ, List.map_append, newPs_ids c es id workers every lazy n]
    unfold homesN
    rw [List.range_succ, List.filter_append, List.map_append]
    by_cases h : homeOf n workers = id
    · rw [if_pos h, List.filter_cons_of_pos (by simpa using h)]; rfl
    · rw [if_neg h, List.filter_cons_of_neg (by simpa using h)]; rfl
theorem homesN_up (n : Nat) (workers i : Int) : (homesN n workers i).Pairwise (· < ·) := List.Pairwise.filter _ List.pairwise_lt_range
theorem homesN_mem {n : Nat} {workers i : Int} {j : Nat} : j ∈ homesN n workers i ↔ j < n ∧ homeOf j workers = i := by simp [homesN]
theorem newPs_up (c : Cfg) (es : List Event) (id workers every : Int) (lazy : Bool) (n : Nat) : ((newPs c es id workers every lazy n).map (·.1)).Pairwise (· < ·) := by
  rw [newPs_ids, List.pairwise_map]
  exact (homesN_up n workers id).imp fun h => by omega
def seenE (n : Nat) (workers i : Int) (k : Nat) : List Int := (List.range n).map fun j : Nat => if homeOf j workers < i ∨ (homeOf j workers = i ∧ j ∈ (homesN n workers i).take k) then 1 else 0
theorem seen_len (n : Nat) (workers i : Int) (k : Nat) : (seenE n workers i k).length = n := by simp [seenE]
theorem seen_at {n : Nat} (workers i : Int) (k : Nat) {j : Nat} (h : j < n) : (seenE n workers i k)[j]? = some (if homeOf j workers < i ∨ (homeOf j workers = i ∧ j ∈ (homesN n workers i).take k) then 1 else 0) := by
  unfold seenE
  rw [List.getElem?_map, List.getElem?_range h]; rfl
theorem seen_zero (n : Nat) (workers : Int) : seenE n workers 0 0 = List.replicate n 0 := by
  refine List.ext_getElem? fun j => ?_
  by_cases h : j < n
  · rw [seen_at _ _ _ h, if_neg, List.getElem?_replicate, if_pos h]
    rintro (h1 | ⟨_, h2⟩)
    · have := homeOf_nonneg j workers; omega
    · simp at h2
  · rw [List.getElem?_eq_none (by rw [seen_len]; omega), List.getElem?_eq_none (by simp; omega)]
theorem seen_not {n : Nat} {workers i : Int} {k j : Nat} (h : (homesN n workers i)[k]? = some j) : j < n ∧ homeOf j workers = i ∧ j ∉ (homesN n workers i).take k := by
  obtain ⟨h1, h2⟩ := homesN_mem.1 (List.mem_of_getElem? h)
  refine ⟨h1, h2, fun hm => ?_⟩
  obtain ⟨q, hq, e⟩ := List.mem_iff_getElem.1 hm
  rw [List.getElem_take] at e
  have hd : (homesN n workers i).Nodup := (homesN_up n workers i).imp fun h => by omega
  obtain ⟨hk, e2⟩ := List.getElem?_eq_some_iff.1 h
  have := (List.getElem_inj hd).1 (e.trans e2.symm)
  rw [List.length_take] at hq
  omega
theorem seen_get {n : Nat} {workers i : Int} {k j : Nat} (h : (homesN n workers i)[k]? = some j) : (seenE n workers i k)[j]? = some 0 := by
  obtain ⟨h1, h2, h3⟩ := seen_not h
  rw [seen_at _ _ _ h1, if_neg]
  rintro (h4 | ⟨_, h4⟩)
  · omega
  · exact h3 h4
theorem seen_set {n : Nat} {workers i : Int} {k j : Nat} (h : (homesN n workers i)[k]? = some j) : (seenE n workers i k).set j 1 = seenE n workers i (k + 1) := by
  obtain ⟨h1, h2, h3⟩ := seen_not h
  refine List.ext_getElem? fun q => ?_
  by_cases hq : q < n
  · rw [List.getElem?_set, seen_len, seen_at _ _ _ hq, seen_at _ _ _ hq, List.take_add_one, h, Option.toList_some]
    by_cases e : j = q
    · subst e
      rw [if_pos rfl, if_pos h1, if_pos (.inr ⟨h2, by simp⟩)]
    · rw [if_neg e]
      congr 1
      have : (q ∈ (homesN n workers i).take k ++ [j]) = (q ∈ (homesN n workers i).take k) := by
        simp only [List.mem_append, List.mem_singleton, eq_iff_iff]
        exact ⟨fun h => h.resolve_right fun e2 => e e2.symm, .inl⟩
      simp only [this]
  · rw [List.getElem?_eq_none (by rw [List.length_set, seen_len]; omega), List.getElem?_eq_none (by rw [seen_len]; omega)]
theorem seen_next (n : Nat) (workers i : Int) : seenE n workers i (homesN n workers i).length = seenE n workers (i + 1) 0 := by
  refine List.ext_getElem? fun q => ?_
  by_cases hq : q < n
  · rw [seen_at _ _ _ hq, seen_at _ _ _ hq, List.take_length]
    congr 1
    by_cases h1 : homeOf q workers < i
    · rw [if_pos (.inl h1), if_pos (.inl (by omega))]
    · by_cases h2 : homeOf q workers = i
      · rw [if_pos (.inr ⟨h2, homesN_mem.2 ⟨hq, h2⟩⟩), if_pos (.inl (by omega))]
      · rw [if_neg, if_neg]
        · rintro (h | ⟨_, h⟩)
          · omega
          · simp at h
        · rintro (h | ⟨h, _⟩)
          · exact h1 h
          · exact h2 h
  · rw [List.getElem?_eq_none (by rw [seen_len]; omega), List.getElem?_eq_none (by rw [seen_len]; omega)]
theorem seen_all (n : Nat) {workers : Int} (hw : 1 ≤ workers) : seenE n workers workers 0 = List.replicate n 1 := by
  refine List.ext_getElem? fun j => ?_
  by_cases h : j < n
  · rw [seen_at _ _ _ h, if_pos (.inl (homeOf_lt j hw)), List.getElem?_replicate, if_pos h]
  · rw [List.getElem?_eq_none (by rw [seen_len]; omega), List.getElem?_eq_none (by simp; omega)]
end Go.Proofs.YtmpfbkfemlhekaaGreatDoor
/- The walk of the law WorkerHomes. -/
namespace Go.Proofs.YtmpfbkfemlhekaaGreatDoor
open Go Go.RowKit Reg Mem

def homesZ (n : Nat) (workers i : Int) : List Int := (homesN n workers i).map fun j : Nat => (j : Int)
theorem homesZ_len (n : Nat) (workers i : Int) : (homesZ n workers i).length = (homesN n workers i).length := List.length_map ..
theorem homesN_len (n : Nat) (workers i : Int) : (homesN n workers i).length ≤ n := by have := List.length_filter_le (fun j : Nat => homeOf j workers == i) (List.range n); rw [List.length_range] at this; exact this
theorem homesZ_get {n : Nat} {workers i : Int} {k : Nat} (h : k < (homesZ n workers i).length) : ∃ q : Nat, (homesN n workers i)[k]? = some q ∧ (homesZ n workers i)[k]? = some (q : Int) := by
  rw [homesZ_len] at h
  exact ⟨_, List.getElem?_eq_getElem h, by unfold homesZ; rw [List.getElem?_map, List.getElem?_eq_getElem h]; rfl⟩
theorem homesN_lt {n : Nat} {workers i : Int} {a b x y : Nat} (hab : a < b) (ha : (homesN n workers i)[a]? = some x) (hb : (homesN n workers i)[b]? = some y) : x < y := by
  obtain ⟨h1, e1⟩ := List.getElem?_eq_some_iff.1 ha
  obtain ⟨h2, e2⟩ := List.getElem?_eq_some_iff.1 hb
  rw [← e1, ← e2]
  exact List.pairwise_iff_getElem.1 (homesN_up n workers i) a b h1 h2 hab
def HoRel1 (bz n : Nat) (workers : Int) (T : List Asn) (w : World) (i : Value) (wr : World) : Prop :=
  ∃ j : Nat, (j : Int) ≤ workers ∧ i = .int .i64 j ∧ St (fun _ => False) w wr (Mem.Own 3 intE 1 (.slice (some ⟨bz, 0, none⟩) n n) (seenE n workers j 0) :: T)
def HoRel2 (bz n j : Nat) (v : Value) (workers : Int) (T : List Asn) (w : World) (i : Value) (wr : World) : Prop :=
  ∃ k : Nat, k ≤ (homesZ n workers j).length ∧ i = .int .i64 k ∧ St (fun _ => False) w wr (Sl true intE 1 v (homesZ n workers j) :: Mem.Own 3 intE 1 (.slice (some ⟨bz, 0, none⟩) n n) (seenE n workers j k) :: T)
def HoRel3 (bz n : Nat) (T : List Asn) (w : World) (i : Value) (wr : World) : Prop :=
  ∃ j : Nat, j ≤ n ∧ i = .int .i64 j ∧ St (fun _ => False) w wr (Mem.Own 3 intE 1 (.slice (some ⟨bz, 0, none⟩) n n) (List.replicate n 1) :: T)
set_option maxRecDepth 100000 in
set_option maxHeartbeats 16000000 in
theorem homes_law (id workers : Int) (hi : -9223372036854775808 ≤ id) (hi2 : id ≤ 9223372036854775807) (vs hs : List Value) (c : Cfg) (w : World) (F F2 : Nat → Prop) (h : (CfgA true vs hs c).at_ w F) (hw : Wide c) (hwb : WideB c) (ht : Tab.at_ w F2) :
    Calls Tryz.prog 3 #[.int .i64 id, .int .i64 workers, .agg vs.toArray] w fun r w' => r = .returned (.bool true) ∧ Below w.heap.size w w' := by
  have S : St (fun _ => False) w w [CfgA true vs hs c, Tab] := ((St.init _ w).share rfl rfl ht).share rfl rfl h
  clear h ht
  obtain ⟨aP, cP, aL, cL, aS, cS, rfl, _, _⟩ := S.cfg 0 rfl
  have HMd := Lib.hid fun w F F2 h ht => made_calls [.slice aP c.programs.length cP, .slice aL c.lps.length cL, .slice aS c.starts.length cS, .int .i64 c.fin, .int .i64 c.fuel, .int .i64 c.fan] hs c w F F2 h hw hwb ht
  have HH := Lib.hid fun w => home_calls id workers hi hi2 w
  have HR := Lib.hid fun w => rhome_calls id workers hi hi2 w
  have h0 := homeOf_nonneg id workers
  have h1 : workers > 0 → homeOf id workers < workers := fun h => homeOf_lt id (by omega)
  generalize homeOf id workers = hm at *
  have f0 : decide (hm < 0) = false := decide_eq_false (by omega)
  have fb : (hm != hm) = false := by simp
  clear hw hwb hi hi2 h0
  by_cases hw0 : workers > 0
  case neg =>
    have f1 : decide (workers > 0) = false := decide_eq_false hw0
    have f2 : decide (workers < 1) = true := decide_eq_true (by omega)
    clear hw0 h1
    go_enter Tryz.func3, Tryz.ntmps3
    go_wp2_with first | ((with_reducible apply wps_boxa (E := 26) S); (case hx => rfl); clear S; intro bx wz S) | (go_at_call 6; refine Calls.mono (HH.out _) ?_; rintro e wz ⟨rfl, hE⟩; replace S := S.ext (Keep.of_below hE); clear hE) | (go_at_call 7; refine Calls.mono (HR.out _) ?_; rintro e wz ⟨rfl, hE⟩; replace S := S.ext (Keep.of_below hE); clear hE) | ((with_reducible apply wps_loada (T := 26) (k := 6) S 0); (case hx | hi => rfl); (case hk => exact Nat.le_of_ble_eq_true rfl); (case hT => decide +kernel))
    refine Calls.mono (HMd.out _ _ _ (S.get (i := 1) rfl).choose_spec (S.get (i := 2) rfl).choose_spec) ?_
    clear HMd
    rintro r wz ⟨pv, vs2, hs2, rfl, (⟨hmm, rfl, T⟩ | ⟨hmm, R, vs3, hs3, rfl, T⟩)⟩
    · replace S := ((S.join T rfl).cfgShare 0 rfl).pick [0, 1, 2, 3] rfl
      repeat (first | simp only at S | simp only [pick] at S | simp only [nth] at S | simp only [List.set_cons_succ] at S | simp only [List.set_cons_zero] at S | simp only [List.setIfInBounds_toArray] at S | simp only [setAll] at S | simp only [List.cons_append] at S | simp only [List.nil_append] at S | simp only [List.append_nil] at S)
      clear T hmm
      obtain ⟨aP2, cP2, aL2, cL2, aS2, cS2, rfl, _, _⟩ := S.cfg 0 rfl
      go_wp2_with first | ((with_reducible apply wps_alloca (E := 33) S); (case hz => exact Tryz.zeroValue33); clear S; intro b6 wz S) | ((with_reducible apply wps_storea (T := 33) S 0 (vs := [.slice aP2 c.programs.length cP2, .slice aL2 c.lps.length cL2, .slice aS2 c.starts.length cS2, .int .i64 c.fin, .int .i64 c.fuel, .int .i64 c.fan]) (m := 6)); (case hx | hy | hi | hm | h1 => rfl); (case hn => exact Nat.le_of_ble_eq_true rfl); (case hT => decide +kernel); clear S; intro wz S; simp only [List.set_cons_zero, List.set_cons_succ, setAll, List.setIfInBounds_toArray] at S) | (go_at_call 9; refine Calls.mono (awake18_calls _ _ (S.get (i := 4) rfl).choose_spec) ?_; rintro e wz ⟨rfl, hE⟩; replace S := S.ext (Keep.of_below hE); clear hE)
      go_ret
      exact ⟨rfl, S.below⟩
    · replace S := (((S.join T rfl).modShare 0 rfl).cfgShare 1 rfl).pick [0, 1, 2, 3, 4] rfl
      repeat (first | simp only at S | simp only [pick] at S | simp only [nth] at S | simp only [List.set_cons_succ] at S | simp only [List.set_cons_zero] at S | simp only [List.setIfInBounds_toArray] at S | simp only [setAll] at S | simp only [List.cons_append] at S | simp only [List.nil_append] at S | simp only [List.append_nil] at S)
      clear T hmm
      obtain ⟨aP2, cP2, aL2, cL2, aS2, cS2, rfl, _, _⟩ := S.cfg 1 rfl
      go_wp2_with first | ((with_reducible apply wps_alloca (E := 33) S); (case hz => exact Tryz.zeroValue33); clear S; intro b6 wz S) | ((with_reducible apply wps_storea (T := 33) S 0 (vs := [.slice aP2 c.programs.length cP2, .slice aL2 c.lps.length cL2, .slice aS2 c.starts.length cS2, .int .i64 c.fin, .int .i64 c.fuel, .int .i64 c.fan]) (m := 6)); (case hx | hy | hi | hm | h1 => rfl); (case hn => exact Nat.le_of_ble_eq_true rfl); (case hT => decide +kernel); clear S; intro wz S; simp only [List.set_cons_zero, List.set_cons_succ, setAll, List.setIfInBounds_toArray] at S) | (go_at_call 9; refine Calls.mono (awake18_calls _ _ (S.get (i := 5) rfl).choose_spec) ?_; rintro e wz ⟨rfl, hE⟩; replace S := S.ext (Keep.of_below hE); clear hE)
      go_ret
      exact ⟨rfl, S.below⟩
  case pos =>
    have f1 : decide (workers > 0) = true := decide_eq_true hw0
    have f2 : decide (workers < 1) = false := decide_eq_false (by omega)
    have f3 : decide (hm ≥ workers) = false := decide_eq_false (by have := h1 hw0; omega)
    have h1w : 1 ≤ workers := by omega
    clear hw0 h1
    go_enter Tryz.func3, Tryz.ntmps3
    go_wp2_with first | ((with_reducible apply wps_boxa (E := 26) S); (case hx => rfl); clear S; intro bx wz S) | (go_at_call 6; refine Calls.mono (HH.out _) ?_; rintro e wz ⟨rfl, hE⟩; replace S := S.ext (Keep.of_below hE); clear hE) | (go_at_call 7; refine Calls.mono (HR.out _) ?_; rintro e wz ⟨rfl, hE⟩; replace S := S.ext (Keep.of_below hE); clear hE) | ((with_reducible apply wps_loada (T := 26) (k := 6) S 0); (case hx | hi => rfl); (case hk => exact Nat.le_of_ble_eq_true rfl); (case hT => decide +kernel))
    refine Calls.mono (HMd.out _ _ _ (S.get (i := 1) rfl).choose_spec (S.get (i := 2) rfl).choose_spec) ?_
    clear HMd
    rintro r wz ⟨pv, vs2, hs2, rfl, (⟨hmm, rfl, T⟩ | ⟨hmm, R, vs3, hs3, rfl, T⟩)⟩
    · replace S := ((S.join T rfl).cfgShare 0 rfl).pick [0, 1, 2, 3] rfl
      repeat (first | simp only at S | simp only [pick] at S | simp only [nth] at S | simp only [List.set_cons_succ] at S | simp only [List.set_cons_zero] at S | simp only [List.setIfInBounds_toArray] at S | simp only [setAll] at S | simp only [List.cons_append] at S | simp only [List.nil_append] at S | simp only [List.append_nil] at S)
      clear T hmm
      obtain ⟨aP2, cP2, aL2, cL2, aS2, cS2, rfl, _, _⟩ := S.cfg 0 rfl
      go_wp2_with first | ((with_reducible apply wps_alloca (E := 33) S); (case hz => exact Tryz.zeroValue33); clear S; intro b6 wz S) | ((with_reducible apply wps_storea (T := 33) S 0 (vs := [.slice aP2 c.programs.length cP2, .slice aL2 c.lps.length cL2, .slice aS2 c.starts.length cS2, .int .i64 c.fin, .int .i64 c.fuel, .int .i64 c.fan]) (m := 6)); (case hx | hy | hi | hm | h1 => rfl); (case hn => exact Nat.le_of_ble_eq_true rfl); (case hT => decide +kernel); clear S; intro wz S; simp only [List.set_cons_zero, List.set_cons_succ, setAll, List.setIfInBounds_toArray] at S) | (go_at_call 9; refine Calls.mono (awake18_calls _ _ (S.get (i := 4) rfl).choose_spec) ?_; rintro e wz ⟨rfl, hE⟩; replace S := S.ext (Keep.of_below hE); clear hE)
      go_ret
      exact ⟨rfl, S.below⟩
    · replace S := (((S.join T rfl).modShare 0 rfl).cfgShare 1 rfl).pick [0, 1, 2, 3, 4] rfl
      repeat (first | simp only at S | simp only [pick] at S | simp only [nth] at S | simp only [List.set_cons_succ] at S | simp only [List.set_cons_zero] at S | simp only [List.setIfInBounds_toArray] at S | simp only [setAll] at S | simp only [List.cons_append] at S | simp only [List.nil_append] at S | simp only [List.append_nil] at S)
      clear T
      obtain ⟨aP2, cP2, aL2, cL2, aS2, cS2, rfl, _, _⟩ := S.cfg 1 rfl
      by_cases hw8 : workers > 8
      · have f4 : decide (workers > 8) = true := decide_eq_true hw8
        clear hmm hw8 h1w
        go_wp2_with first | ((with_reducible apply wps_alloca (E := 33) S); (case hz => exact Tryz.zeroValue33); clear S; intro b6 wz S) | ((with_reducible apply wps_storea (T := 33) S 0 (vs := [.slice aP2 c.programs.length cP2, .slice aL2 c.lps.length cL2, .slice aS2 c.starts.length cS2, .int .i64 c.fin, .int .i64 c.fuel, .int .i64 c.fan]) (m := 6)); (case hx | hy | hi | hm | h1 => rfl); (case hn => exact Nat.le_of_ble_eq_true rfl); (case hT => decide +kernel); clear S; intro wz S; simp only [List.set_cons_zero, List.set_cons_succ, setAll, List.setIfInBounds_toArray] at S) | (go_at_call 9; refine Calls.mono (awake18_calls _ _ (S.get (i := 5) rfl).choose_spec) ?_; rintro e wz ⟨rfl, hE⟩; replace S := S.ext (Keep.of_below hE); clear hE)
        go_ret
        exact ⟨rfl, S.below⟩
      · have f4 : decide (workers > 8) = false := decide_eq_false hw8
        obtain ⟨ho1, ho2⟩ : fewB c = true ∧ cfgE c = 0 := by unfold madeB at hmm; simpa using hmm
        have hok := cfg_ok.1 ho2
        have hsz := hok.sizes
        unfold sizesOk at hsz
        have hn32 : c.lps.length ≤ 32 := by omega
        have hns : c.starts.length ≤ 65536 := by have := hok.starts; omega
        have hev : ∀ x ∈ startsFrom 0 c.starts, 0 ≤ x.key.at_ ∧ x.key.at_ ≤ 1073741824 := fun x hx => by
          obtain ⟨k, hk, e⟩ := List.mem_iff_getElem.1 hx
          have e1 := startsFrom_get c.starts 0 k
          have hks : k < c.starts.length := by rw [← startsFrom_len c.starts 0]; exact hk
          rw [List.getElem?_eq_getElem hk, List.getElem?_eq_getElem hks] at e1
          simp only [Option.map_some, Option.some.injEq, Nat.zero_add] at e1
          rw [e] at e1
          have h1 := hok.at_ _ (List.getElem_mem hks)
          subst e1
          exact ⟨h1.1, by have := h1.2; simp only [startEv] at *; omega⟩
        have HWN := Lib.hid fun (j : Nat) (hj : (j : Int) < workers) (w : World) (F : Nat → Prop) (h : (ModA true 106 R vs3 hs3 c).at_ w F) => wnew_calls R vs3 hs3 c j workers 1 false w F h hn32 hns h1w (by omega) (by omega) hj (by decide) hev
        have HLP := Lib.hid fun w F h => lps_calls (R := R) (vs := vs3) (hs := hs3) (c := c) (w := w) (F := F) h
        clear hmm hok hsz hev ho1 ho2 hns
        have HWL := Lib.hid fun (j : Nat) (X : Nat) (w : World) (F : Nat → Prop) (h : (workerA X R (newWk c j workers 1 false)).at_ w F) => show Calls Tryz.prog 12 #[.pointer (some ⟨X, 0, none⟩)] w (SortedPost (homesZ c.lps.length workers j) w) from by
          have e := newPs_ids c (sortE (startsFrom 0 c.starts)) j workers 1 false c.lps.length
          have h2 := wlps_calls X R (newWk c j workers 1 false) (by
            have e2 : (newWk c j workers 1 false).ps.length = (homesN c.lps.length workers j).length := by
              have := congrArg List.length e
              rw [List.length_map, List.length_map] at this; exact this
            rw [e2]; have := homesN_len c.lps.length workers j; omega) w F h
          have e3 : (newWk c j workers 1 false).ps.map (·.1) = homesZ c.lps.length workers j := e
          have e4 : (homesZ c.lps.length workers j).Pairwise (· < ·) := by rw [← e3]; exact newPs_up c (sortE (startsFrom 0 c.starts)) j workers 1 false c.lps.length
          rw [e3, sortZ_self e4] at h2
          exact h2
        have HHO := Lib.hid fun (q : Nat) (hq : q < c.lps.length) (w : World) => home_calls q workers (by omega) (by omega) w
        generalize c.lps.length = n at *
        go_upto_region 8 with first | ((with_reducible apply wps_alloca (E := 33) S); (case hz => exact Tryz.zeroValue33); clear S; intro b6 wz S) | ((with_reducible apply wps_storea (T := 33) S 0 (vs := [.slice aP2 c.programs.length cP2, .slice aL2 n cL2, .slice aS2 c.starts.length cS2, .int .i64 c.fin, .int .i64 c.fuel, .int .i64 c.fan]) (m := 6)); (case hx | hy | hi | hm | h1 => rfl); (case hn => exact Nat.le_of_ble_eq_true rfl); (case hT => decide +kernel); clear S; intro wz S; simp only [List.set_cons_zero, List.set_cons_succ, setAll, List.setIfInBounds_toArray] at S) | (go_at_call 10; refine Calls.mono (HLP.out _ _ (S.get (i := 1) rfl).choose_spec) ?_; rintro e wz ⟨rfl, hE⟩; replace S := S.ext (Keep.of_below hE); clear hE) | ((with_reducible apply wps_make intE_len Tryz.underlying37 _ zero_Int S (n := n)); (case hx | hy => rfl); (case hn => omega); clear S; intro bz wz S)
        replace S := S.pick [0, 2, 6] rfl
        simp only [pick, nth] at S
        rw [← seen_zero n workers] at S
        go_wp2_with first | ((with_reducible apply wps_loada (T := 26) (k := 6) S 0); (case hx | hi => rfl); (case hk => exact Nat.le_of_ble_eq_true rfl); (case hT => decide +kernel))
        go_loopw [11] (fun i wr => HoRel1 bz n workers [ModA true 106 R vs3 hs3 c, Tab] w i wr) (fun i _ => workers.toNat - (intOf i).toNat)
        case atStart => exact ⟨0, by omega, rfl, S⟩
        case round =>
          clear S
          obtain ⟨j, hj, rfl, S⟩ := hrel
          by_cases hlt : (j : Int) < workers
          · have HWJ := Lib.hid (HWN.out j hlt)
            go_upto_region 15 with first | (go_at_call 11; refine Calls.mono (HWJ.out _ _ (S.get (i := 1) rfl).choose_spec) ?_; rintro e wz ⟨X, rfl, T⟩; replace S := S.join T rfl; clear T; simp only [List.cons_append, List.nil_append] at S) | (go_at_call 12; refine Calls.mono (HWL.out j X _ _ (S.get (i := 0) rfl).choose_spec) ?_; rintro e wz ⟨ad, cc, rfl, T⟩; replace S := S.join T rfl; clear T; simp only [List.cons_append, List.nil_append] at S)
            replace S := S.freeze true 0 intE_len rfl
            simp only [List.set_cons_zero] at S
            replace S := S.pick [0, 2, 3, 4] rfl
            simp only [pick, nth] at S
            clear HWJ
            have hzl : (homesZ n workers j).length ≤ 32 := by have := homesN_len n workers j; rw [homesZ_len]; omega
            go_wp2_with first | ((with_reducible apply wps_loada (T := 26) (k := 6) S 0); (case hx | hi => rfl); (case hk => exact Nat.le_of_ble_eq_true rfl); (case hT => decide +kernel))
            go_loopw [15] (fun i wr => HoRel2 bz n j (.slice ad (homesZ n workers j).length cc) workers [ModA true 106 R vs3 hs3 c, Tab] w i wr) (fun i _ => (homesZ n workers j).length - (intOf i).toNat)
            case atStart => exact ⟨0, Nat.zero_le _, rfl, S⟩
            case round =>
              clear S
              obtain ⟨k, hk, rfl, S⟩ := hrel
              by_cases hkl : k < (homesZ n workers j).length
              · obtain ⟨q, hq, hqz⟩ := homesZ_get hkl
                obtain ⟨hqn, hqh, _⟩ := seen_not hq
                obtain ⟨R1, o1, rfl⟩ : ∃ R o, ad = some ⟨R, o, none⟩ := (S.sl 0 rfl).elim fun F h => h.head (by omega)
                have HQZ := Lib.hid hqz
                have HG := Lib.hid (seen_get hq)
                have HS := Lib.hid (seen_set hq)
                have HHQ := Lib.hid (HHO.out q hqn)
                rw [hqh] at HHQ
                have hkl2 : (k : Int) < ((homesZ n workers j).length : Int) := by omega
                have g1 : decide ((q : Int) < 0) = false := decide_eq_false (by omega)
                have g2 : decide ((q : Int) ≥ (n : Int)) = false := decide_eq_false (by omega)
                have g3 : ((j : Int) != (j : Int)) = false := by simp
                have g2' : decide (n ≤ q) = false := decide_eq_false (by omega)
                by_cases hk0 : k = 0
                · have g4 : decide ((k : Int) > 0) = false := decide_eq_false (by omega)
                  have g4' : decide (0 < k) = false := decide_eq_false (by omega)
                  clear hq hqz hqh hk0
                  go_wp2_with first | ((with_reducible apply wps_load_el S 0 (hj := HQZ.out) (q := 0) (u := (.int .i64 q))); (case hx | hi => rfl); (case hn => omega); (case hu => rfl); (case hT => decide +kernel)) | (go_at_call 6; refine Calls.mono (HHQ.out _) ?_; rintro e wz ⟨rfl, hE⟩; replace S := S.ext (Keep.of_below hE); clear hE) | ((with_reducible apply wps_load_own intE_len S 1 (hj := HG.out) (q := 0) (u := (.int .i64 0))); (case hx | hi => rfl); (case hn => omega); (case hu => rfl); (case hT => decide +kernel)) | ((with_reducible apply wps_store_own intE_len S 1 (hj := HG.out) (e' := (1 : Int)) (q := 0)); (case hx => rfl); (case hn => omega); (case hi | hy | h1 | he => rfl); (case hq => decide); (case hT => decide +kernel); clear S; intro wz S; simp only [List.set_cons_succ, List.set_cons_zero] at S) | ((with_reducible refine tot_done ?ht ?_); (case ht => kernel_rfl)) | ((with_reducible apply wps_text S); (case hm => kernel_rfl); (case hB => decide +kernel); clear S; intro wz S)
                  rw [HS.out] at S
                  go_roundw
                  case rel => exact ⟨k + 1, by omega, by go_num, S⟩
                  case measure => first | (simp [intOf]; done) | (simp [intOf]; omega)
                · obtain ⟨p, hp, hpz⟩ := homesZ_get (n := n) (workers := workers) (i := j) (k := k - 1) (by omega)
                  have hpq := homesN_lt (by omega) hp hq
                  have g4 : decide ((k : Int) > 0) = true := decide_eq_true (by omega)
                  have g4' : decide (0 < k) = true := decide_eq_true (by omega)
                  have g5 : decide ((q : Int) ≤ (p : Int)) = false := decide_eq_false (by omega)
                  have g5' : decide (q ≤ p) = false := decide_eq_false (by omega)
                  have HPZ := Lib.hid hpz
                  have hkp : 1 ≤ k := by omega
                  clear hq hqz hqh hk0 hp hpz hpq
                  go_wp2_with first | ((with_reducible apply wps_load_el S 0 (hj := HQZ.out) (q := 0) (u := (.int .i64 q))); (case hx | hi => rfl); (case hn => omega); (case hu => rfl); (case hT => decide +kernel)) | ((with_reducible apply wps_load_el S 0 (hj := HPZ.out) (q := 0) (u := (.int .i64 p))); (case hx | hi => rfl); (case hn => omega); (case hu => rfl); (case hT => decide +kernel)) | (go_at_call 6; refine Calls.mono (HHQ.out _) ?_; rintro e wz ⟨rfl, hE⟩; replace S := S.ext (Keep.of_below hE); clear hE) | ((with_reducible apply wps_load_own intE_len S 1 (hj := HG.out) (q := 0) (u := (.int .i64 0))); (case hx | hi => rfl); (case hn => omega); (case hu => rfl); (case hT => decide +kernel)) | ((with_reducible apply wps_store_own intE_len S 1 (hj := HG.out) (e' := (1 : Int)) (q := 0)); (case hx => rfl); (case hn => omega); (case hi | hy | h1 | he => rfl); (case hq => decide); (case hT => decide +kernel); clear S; intro wz S; simp only [List.set_cons_succ, List.set_cons_zero] at S) | ((with_reducible refine tot_done ?ht ?_); (case ht => kernel_rfl)) | ((with_reducible apply wps_text S); (case hm => kernel_rfl); (case hB => decide +kernel); clear S; intro wz S)
                  rw [HS.out] at S
                  go_roundw
                  case rel => exact ⟨k + 1, by omega, by go_num, S⟩
                  case measure => first | (simp [intOf]; done) | (simp [intOf]; omega)
              · obtain rfl : k = (homesZ n workers j).length := by omega
                rw [homesZ_len, seen_next n workers j] at S
                have S2 := S.pick [1, 2, 3] rfl
                simp only [pick, nth] at S2
                rw [show ((j : Int) + 1) = ((j + 1 : Nat) : Int) by omega] at S2
                replace S := S2
                clear S2
                go_wp2_with first | ((with_reducible apply wps_loada (T := 26) (k := 6) S 0); (case hx | hi => rfl); (case hk => exact Nat.le_of_ble_eq_true rfl); (case hT => decide +kernel))
                go_roundw
                case rel => exact ⟨j + 1, by omega, by go_num, S⟩
                case measure => first | (simp [intOf]; done) | (simp [intOf]; omega)
          · obtain rfl : (j : Int) = workers := by omega
            rw [seen_all n h1w] at S
            go_wp2_with first | ((with_reducible apply wps_loada (T := 26) (k := 6) S 0); (case hx | hi => rfl); (case hk => exact Nat.le_of_ble_eq_true rfl); (case hT => decide +kernel))
            go_loopw [16] (fun i wr => HoRel3 bz n [ModA true 106 R vs3 hs3 c, Tab] w i wr) (fun i _ => n - (intOf i).toNat)
            case atStart => exact ⟨0, Nat.zero_le _, rfl, S⟩
            case round =>
              clear S
              obtain ⟨k, hk, rfl, S⟩ := hrel
              by_cases hkn : k < n
              · have HG : Hid ((List.replicate n (1 : Int))[k]? = some 1) := Lib.hid (by rw [List.getElem?_replicate, if_pos hkn])
                have hkn2 : (k : Int) < (n : Int) := by omega
                go_wp2_with first | ((with_reducible apply wps_load_own intE_len S 0 (hj := HG.out) (q := 0) (u := (.int .i64 1))); (case hx | hi => rfl); (case hn => omega); (case hu => rfl); (case hT => decide +kernel))
                go_roundw
                case rel => exact ⟨k + 1, by omega, by go_num, S⟩
                case measure => first | (simp [intOf]; done) | (simp [intOf]; omega)
              · obtain rfl : k = n := by omega
                go_wp2_with first | (go_at_call 9; refine Calls.mono (awake18_calls _ _ (S.get (i := 2) rfl).choose_spec) ?_; rintro e wz ⟨rfl, hE⟩; replace S := S.ext (Keep.of_below hE); clear hE)
                go_ret
                exact ⟨rfl, S.below⟩
end Go.Proofs.YtmpfbkfemlhekaaGreatDoor

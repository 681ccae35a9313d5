import Derived.Test.YtcbdacmdmaoegaaH6
/- The walk of the law IheapBack. -/
namespace Go.Proofs.Ytcbdacmdmaoegaa
open Go Go.RowKit Reg Mem

theorem sorted_uniq {s t : List Row} (hs : HSorted s) (ht : HSorted t) (hp : s.Perm t) : s = t := by
  refine List.Perm.eq_of_pairwise (le := fun a b => b.key.lt a.key = false) (fun a b ha hb h1 h2 => ?_) (hs.imp fun h => Key.lt_asymm' h) (ht.imp fun h => Key.lt_asymm' h) hp
  have hk : a.key = b.key := Key.eq_of h2 h1
  have h3 := find_key (hp.mem_iff.1 ha) ht.nodup
  have h4 := find_key hb ht.nodup
  rw [hk, h4] at h3
  exact (Option.some.inj h3).symm
theorem pulled_out {s : List Row} {k : Key} : k ∉ (pulled s k).map (·.key) := fun h => by
  obtain ⟨r, hr, hk⟩ := List.mem_map.1 h
  have := (List.mem_filter.1 hr).2
  simp only [decide_eq_true_eq] at this
  exact this hk
theorem push_back {s : List Row} (hs : HSorted s) {r : Row} (hr : r ∈ s) : pushed (pulled s r.key) r = s := by
  have hk : r.key ∉ (pulled s r.key).map (·.key) := pulled_out
  rw [pushed, if_neg hk]
  refine sorted_uniq (ins_sorted _ _ (filter_sorted hs _) hk) hs ?_
  refine (ins_perm _ _).trans ?_
  exact ((List.perm_append_singleton _ _).symm).trans (filter_perm hr hs.nodup)
theorem pull_back {s : List Row} (hs : HSorted s) {r : Row} (hk : r.key ∉ s.map (·.key)) : pulled (pushed s r) r.key = s ∧ fv (pushed s r) r.key = (r.v, 0) := by
  have hps : HSorted (pushed s r) := pushed_sorted hs r
  have hm : r ∈ pushed s r := by rw [pushed, if_neg hk]; exact (ins_perm r s).mem_iff.2 (by simp)
  refine ⟨sorted_uniq (filter_sorted hps _) hs ?_, fv_some hps hm⟩
  refine (List.perm_append_right_iff [r]).1 ((filter_perm hm hps.nodup).trans ?_)
  rw [pushed, if_neg hk]
  exact (ins_perm r s).trans (List.perm_append_singleton r s).symm
theorem hpush_new (B : Nat) (s s' : List Row) (k : Key) (x : Int) (w : World) (F : Nat → Prop) (h : (heapA B s).at_ w F) (hk : k ∉ s.map (·.key)) (hp : pushed s ⟨k, x⟩ = s') (hmax : s.length < 4294967296) :
    Calls Try.prog 21 #[.pointer (some ⟨B, 0, none⟩), .agg #[.int .i64 k.at_, .int .i64 k.src, .int .i64 k.sent, .int .i64 k.no], .int .i64 x] w fun e w' => e = .returned (.int .i64 0) ∧ St F w w' [heapA B s'] := by
  subst hp
  exact (hpush_calls B s k x w F h hmax).mono fun _ _ h => ⟨by rw [h.1, PushAns, if_neg hk], h.2⟩
theorem hpull_is (B : Nat) (s s' : List Row) (k : Key) (a b : Int) (w : World) (F : Nat → Prop) (h : (heapA B s).at_ w F) (hf : fv s k = (a, b)) (hp : pulled s k = s') (hmax : s.length ≤ 4294967296) :
    Calls Try.prog 20 #[.pointer (some ⟨B, 0, none⟩), .agg #[.int .i64 k.at_, .int .i64 k.src, .int .i64 k.sent, .int .i64 k.no]] w fun e w' => e = .returned (.tuple #[.int .i64 a, .int .i64 b]) ∧ St F w w' [heapA B s'] := by
  subst hp
  have := hpull_fv B s k w F h hmax
  rwa [hf] at this
theorem hget_is (B : Nat) (s : List Row) (k : Key) (a b : Int) (w : World) (F : Nat → Prop) (h : (heapA B s).at_ w F) (hf : fv s k = (a, b)) :
    Calls Try.prog 19 #[.pointer (some ⟨B, 0, none⟩), .agg #[.int .i64 k.at_, .int .i64 k.src, .int .i64 k.sent, .int .i64 k.no]] w fun e w' => e = .returned (.tuple #[.int .i64 a, .int .i64 b]) ∧ Below w.heap.size w w' := by
  have := hget_fv B s k w F h
  rwa [hf] at this
def BkRel (B B2 b4 : Nat) (kc : Array Value) (v : Value) (l : List Op3) (w : World) (i : Value) (wr : World) : Prop :=
  ∃ j : Nat, j ≤ l.length ∧ i = .int .i64 j ∧ St (fun _ => False) w wr [heapA B (afterE (l.take j)), refH false B2 (afterE (l.take j)), Sl true Op3.cells 6 v l, Blk false b4 kc 28]
set_option maxRecDepth 100000 in
set_option maxHeartbeats 8000000 in
theorem iheapBack_calls (v : Value) (l : List Op3) (key : Key) (x0 : Int) (w : World) (F : Nat → Prop) (h : (Sl true Op3.cells 6 v l).at_ w F) : Calls Try.prog 5 #[v, .agg #[.int .i64 key.at_, .int .i64 key.src, .int .i64 key.sent, .int .i64 key.no], .int .i64 x0] w fun r w' => r = .returned (.bool true) ∧ Below w.heap.size w w' := by
  have S : St (fun _ => False) w w [Sl true Op3.cells 6 v l] := (St.init _ w).share rfl rfl h
  obtain ⟨ad, cp, rfl, _⟩ := (S.sl 0 rfl).elim fun _ h => h.form
  clear h
  by_cases hl : l.length ≤ 60
  · have hd : decide (l.length ≤ 60) = true := decide_eq_true hl
    have Hd := Lib.hid hd
    clear hd
    go_enter Try.func5, Try.ntmps5
    go_wp2_with first
      | go_skip
      | ((with_reducible refine wpList_skip ?hw ?_); (case hw => with_unfolding_all rfl); simp only [Act.put, List.setIfInBounds_toArray, List.set_cons_succ, List.set_cons_zero])
      | ((with_reducible apply wps_boxa (E := 28) S); (case hx => rfl); clear S; intro b4 wz S)
      | (go_at_call 15; refine Calls.mono (hnew_calls _) ?_; rintro e wz ⟨B, rfl, T⟩; replace S := S.join T rfl; clear T; simp only [List.cons_append, List.nil_append] at S)
      | (go_at_call 16; refine Calls.mono (few_calls _ _ _ _ _ rfl) ?_; rintro e wz ⟨rfl, hE⟩; rw [Hd.out]; replace S := S.ext (Keep.of_below hE); clear hE)
      | ((with_reducible apply wps_boxa (E := 42) S); (case hx => rfl); clear S; intro B2 wz S)
      | ((with_reducible refine tot_done ?ht ?_); (case ht => kernel_rfl))
      | ((with_reducible apply wps_boxa S); (case hx => rfl); clear S; intro bz wz S)
      | ((with_reducible apply wps_box1 (v := .int _ _) S); (case hx => rfl); (case h1 => rfl); clear S; intro bz wz S)
      | ((with_reducible apply wps_box1 (v := .bool _) S); (case hx => rfl); (case h1 => rfl); clear S; intro bz wz S)
      | ((with_reducible apply wps_box1 (v := .slice _ _ _) S); (case hx => rfl); (case h1 => rfl); clear S; intro bz wz S)
      | ((with_reducible apply wps_box1 (v := .pointer _) S); (case hx => rfl); (case h1 => rfl); clear S; intro bz wz S)
      | ((with_reducible apply wps_box1 (v := .map _) S); (case hx => rfl); (case h1 => rfl); clear S; intro bz wz S)
      | ((with_reducible apply wps_box1 (v := .string _) S); (case hx => rfl); (case h1 => rfl); clear S; intro bz wz S)
      | ((with_reducible apply wps_box1 (v := .func _ _ _) S); (case hx => rfl); (case h1 => rfl); clear S; intro bz wz S)
      | ((with_reducible apply wps_loada (T := 28) (k := 4) S 0); (case hx => rfl); (case hi => rfl); (case hT => decide +kernel); (case hk => exact Nat.le_of_ble_eq_true rfl))
      | ((with_reducible apply wps_loada (T := 45) (k := 6) S 0); (case hx => rfl); (case hi => rfl); (case hT => decide +kernel); (case hk => exact Nat.le_of_ble_eq_true rfl))
    replace S := ref_new S
    replace S := S.pick [1, 0, 3, 2] rfl
    simp only [pick, nth] at S
    go_loopw [9] (fun i wr => BkRel B B2 b4 _ (.slice ad l.length cp) l w i wr) (fun i _ => l.length - (intOf i).toNat)
    case atStart => exact ⟨0, Nat.zero_le _, rfl, S⟩
    case round =>
      clear S
      obtain ⟨j, hj, rfl, S⟩ := hrel
      have Hs := Lib.hid (after_sorted (l.take j))
      have Hn := Lib.hid (after_len (l.take j))
      have hns : (afterE (l.take j)).length ≤ 65535 := by have := Hn.out; rw [List.length_take] at this; omega
      by_cases hlt : j < l.length
      · obtain ⟨x, hx⟩ : ∃ x, l[j]? = some x := ⟨_, List.getElem?_eq_getElem hlt⟩
        obtain ⟨R, o, rfl⟩ : ∃ R o, ad = some ⟨R, o, none⟩ := (S.sl 2 rfl).elim fun F h => h.head (by omega)
        have hlt2 : (j : Int) < l.length := by omega
        have hst := after_step hx
        have Hst := Lib.hid hst
        have Hx := Lib.hid hx
        clear hx
        clear hst
        generalize hsj : afterE (l.take j) = s at *
        go_wp2_with first
          | go_skip
          | ((with_reducible refine wpList_skip ?hw ?_); (case hw => with_unfolding_all rfl); simp only [Act.put, List.setIfInBounds_toArray, List.set_cons_succ, List.set_cons_zero])
          | ((with_reducible apply wps_loada_el S 2 (hj := Hx.out) (q := 0) (vs := [.int .i64 x.ask, .int .i64 x.k.at_, .int .i64 x.k.src, .int .i64 x.k.sent, .int .i64 x.k.no, .int .i64 x.v]) (m := 6)); (case hx => rfl); (case hT => decide +kernel); (case hi => rfl); (case hn => omega); (case hm => rfl); (case hv => rfl))
          | ((with_reducible apply wps_loada_el S 2 (hj := Hx.out) (q := 1) (vs := [.int .i64 x.k.at_, .int .i64 x.k.src, .int .i64 x.k.sent, .int .i64 x.k.no]) (m := 4)); (case hx => rfl); (case hT => decide +kernel); (case hi => rfl); (case hn => omega); (case hm => rfl); (case hv => rfl))
          | (go_at_call 18; obtain ⟨Fz, hF, hBk⟩ := S.lend [0, 1] [] [2, 3] rfl rfl rfl; refine Calls.mono (does_calls _ _ _ x _ _ hF Hs.out hns) ?_; rintro e wz ⟨rfl, T⟩; replace S := hBk _ _ T rfl; clear hBk hF T; simp only [pick, nth, List.cons_append, List.nil_append] at S)
          | ((with_reducible refine tot_done ?ht ?_); (case ht => kernel_rfl))
          | ((with_reducible apply wps_boxa S); (case hx => rfl); clear S; intro bz wz S)
          | ((with_reducible apply wps_box1 (v := .int _ _) S); (case hx => rfl); (case h1 => rfl); clear S; intro bz wz S)
          | ((with_reducible apply wps_box1 (v := .bool _) S); (case hx => rfl); (case h1 => rfl); clear S; intro bz wz S)
          | ((with_reducible apply wps_box1 (v := .slice _ _ _) S); (case hx => rfl); (case h1 => rfl); clear S; intro bz wz S)
          | ((with_reducible apply wps_box1 (v := .pointer _) S); (case hx => rfl); (case h1 => rfl); clear S; intro bz wz S)
          | ((with_reducible apply wps_box1 (v := .map _) S); (case hx => rfl); (case h1 => rfl); clear S; intro bz wz S)
          | ((with_reducible apply wps_box1 (v := .string _) S); (case hx => rfl); (case h1 => rfl); clear S; intro bz wz S)
          | ((with_reducible apply wps_box1 (v := .func _ _ _) S); (case hx => rfl); (case h1 => rfl); clear S; intro bz wz S)
          | ((with_reducible apply wps_loada (T := 28) (k := 4) S 0); (case hx => rfl); (case hi => rfl); (case hT => decide +kernel); (case hk => exact Nat.le_of_ble_eq_true rfl))
          | ((with_reducible apply wps_loada (T := 45) (k := 6) S 0); (case hx => rfl); (case hi => rfl); (case hT => decide +kernel); (case hk => exact Nat.le_of_ble_eq_true rfl))
        go_roundw
        case rel => exact ⟨j + 1, by omega, by go_num, by rw [Hst.out]; exact S⟩
        case measure => first | (simp [intOf]; done) | (simp [intOf]; omega)
      · obtain rfl : j = l.length := by omega
        simp only [List.take_length] at S Hs Hn hns
        generalize hsj : afterE l = s at *
        have h65 : s.length ≤ 65536 := by omega
        have h42 : s.length ≤ 4294967296 := by omega
        by_cases hk : key ∈ s.map (·.key)
        · obtain ⟨r, hr, hrk⟩ := List.mem_map.1 hk
          have hf := fv_some Hs.out hr
          have hb := push_back Hs.out hr
          rw [hrk] at hf hb
          have HB : Hid (pushed (pulled s key) ⟨key, r.v⟩ = s) := by
            obtain ⟨rk, rv⟩ := r
            simp only at hrk
            subst hrk
            exact hb
          have HF := Lib.hid hf
          have HO := Lib.hid (pulled_out (s := s) (k := key))
          have HN : Hid (fv (pulled s key) key = (0, 14)) := fv_none HO.out
          have hpl : (pulled s key).length < 4294967296 := by
            have := List.length_filter_le (fun x : Row => decide (x.key ≠ key)) s
            unfold pulled; omega
          have e1 : (r.v == r.v) = true := by simp
          clear hk hr hrk hf hb
          go_upto_region 11 with first
            | go_skip
            | ((with_reducible refine wpList_skip ?hw ?_); (case hw => with_unfolding_all rfl); simp only [Act.put, List.setIfInBounds_toArray, List.set_cons_succ, List.set_cons_zero])
            | (go_at_call 19; refine Calls.mono (hget_is _ _ key _ _ _ _ (S.get (i := 0) rfl).choose_spec HF.out) ?_; rintro e wz ⟨rfl, hE⟩; replace S := S.ext (Keep.of_below hE); clear hE)
            | ((with_reducible apply wps_loada (T := 28) (k := 4) S 3); (case hx => rfl); (case hi => rfl); (case hT => decide +kernel); (case hk => exact Nat.le_of_ble_eq_true rfl))
            | ((with_reducible refine tot_done ?ht ?_); (case ht => kernel_rfl))
            | ((with_reducible apply wps_boxa S); (case hx => rfl); clear S; intro bz wz S)
            | ((with_reducible apply wps_box1 (v := .int _ _) S); (case hx => rfl); (case h1 => rfl); clear S; intro bz wz S)
            | ((with_reducible apply wps_box1 (v := .bool _) S); (case hx => rfl); (case h1 => rfl); clear S; intro bz wz S)
            | ((with_reducible apply wps_box1 (v := .slice _ _ _) S); (case hx => rfl); (case h1 => rfl); clear S; intro bz wz S)
            | ((with_reducible apply wps_box1 (v := .pointer _) S); (case hx => rfl); (case h1 => rfl); clear S; intro bz wz S)
            | ((with_reducible apply wps_box1 (v := .map _) S); (case hx => rfl); (case h1 => rfl); clear S; intro bz wz S)
            | ((with_reducible apply wps_box1 (v := .string _) S); (case hx => rfl); (case h1 => rfl); clear S; intro bz wz S)
            | ((with_reducible apply wps_box1 (v := .func _ _ _) S); (case hx => rfl); (case h1 => rfl); clear S; intro bz wz S)
            | ((with_reducible apply wps_loada (T := 28) (k := 4) S 0); (case hx => rfl); (case hi => rfl); (case hT => decide +kernel); (case hk => exact Nat.le_of_ble_eq_true rfl))
            | ((with_reducible apply wps_loada (T := 45) (k := 6) S 0); (case hx => rfl); (case hi => rfl); (case hT => decide +kernel); (case hk => exact Nat.le_of_ble_eq_true rfl))
          go_upto_region 12 with first
            | go_skip
            | ((with_reducible refine wpList_skip ?hw ?_); (case hw => with_unfolding_all rfl); simp only [Act.put, List.setIfInBounds_toArray, List.set_cons_succ, List.set_cons_zero])
            | (go_at_call 20; obtain ⟨Fz, hF, hBk⟩ := S.lend1 0 rfl rfl; refine Calls.mono (hpull_is _ _ _ key _ _ _ _ hF HF.out rfl h42) ?_; rintro e wz ⟨rfl, T⟩; replace S := hBk _ _ rfl T; clear hBk hF T; simp only [List.set_cons_zero] at S)
            | ((with_reducible apply wps_loada (T := 28) (k := 4) S 3); (case hx => rfl); (case hi => rfl); (case hT => decide +kernel); (case hk => exact Nat.le_of_ble_eq_true rfl))
            | ((with_reducible refine tot_done ?ht ?_); (case ht => kernel_rfl))
            | ((with_reducible apply wps_boxa S); (case hx => rfl); clear S; intro bz wz S)
            | ((with_reducible apply wps_box1 (v := .int _ _) S); (case hx => rfl); (case h1 => rfl); clear S; intro bz wz S)
            | ((with_reducible apply wps_box1 (v := .bool _) S); (case hx => rfl); (case h1 => rfl); clear S; intro bz wz S)
            | ((with_reducible apply wps_box1 (v := .slice _ _ _) S); (case hx => rfl); (case h1 => rfl); clear S; intro bz wz S)
            | ((with_reducible apply wps_box1 (v := .pointer _) S); (case hx => rfl); (case h1 => rfl); clear S; intro bz wz S)
            | ((with_reducible apply wps_box1 (v := .map _) S); (case hx => rfl); (case h1 => rfl); clear S; intro bz wz S)
            | ((with_reducible apply wps_box1 (v := .string _) S); (case hx => rfl); (case h1 => rfl); clear S; intro bz wz S)
            | ((with_reducible apply wps_box1 (v := .func _ _ _) S); (case hx => rfl); (case h1 => rfl); clear S; intro bz wz S)
            | ((with_reducible apply wps_loada (T := 28) (k := 4) S 0); (case hx => rfl); (case hi => rfl); (case hT => decide +kernel); (case hk => exact Nat.le_of_ble_eq_true rfl))
            | ((with_reducible apply wps_loada (T := 45) (k := 6) S 0); (case hx => rfl); (case hi => rfl); (case hT => decide +kernel); (case hk => exact Nat.le_of_ble_eq_true rfl))
          go_wp2_with first
            | go_skip
            | ((with_reducible refine wpList_skip ?hw ?_); (case hw => with_unfolding_all rfl); simp only [Act.put, List.setIfInBounds_toArray, List.set_cons_succ, List.set_cons_zero])
            | (go_at_call 19; refine Calls.mono (hget_is _ _ key _ _ _ _ (S.get (i := 0) rfl).choose_spec HN.out) ?_; rintro e wz ⟨rfl, hE⟩; replace S := S.ext (Keep.of_below hE); clear hE)
            | ((with_reducible apply wps_loada (T := 28) (k := 4) S 3); (case hx => rfl); (case hi => rfl); (case hT => decide +kernel); (case hk => exact Nat.le_of_ble_eq_true rfl))
            | (go_at_call 21; obtain ⟨Fz, hF, hBk⟩ := S.lend1 0 rfl rfl; refine Calls.mono (hpush_new _ _ _ key _ _ _ hF HO.out HB.out hpl) ?_; rintro e wz ⟨rfl, T⟩; replace S := hBk _ _ rfl T; clear hBk hF T; simp only [List.set_cons_zero] at S)
            | (go_at_call 22; refine Calls.mono (same_calls _ _ _ _ _ _ (S.get (i := 0) rfl).choose_spec (S.get (i := 1) rfl).choose_spec h65) ?_; rintro e wz ⟨rfl, hE⟩; replace S := S.ext (Keep.of_below hE); clear hE)
            | (go_at_call 17; refine Calls.mono (awake3_calls _) ?_; rintro e wz ⟨rfl, hE⟩; replace S := S.ext (Keep.of_below hE); clear hE)
            | ((with_reducible refine tot_done ?ht ?_); (case ht => kernel_rfl))
            | ((with_reducible apply wps_boxa S); (case hx => rfl); clear S; intro bz wz S)
            | ((with_reducible apply wps_box1 (v := .int _ _) S); (case hx => rfl); (case h1 => rfl); clear S; intro bz wz S)
            | ((with_reducible apply wps_box1 (v := .bool _) S); (case hx => rfl); (case h1 => rfl); clear S; intro bz wz S)
            | ((with_reducible apply wps_box1 (v := .slice _ _ _) S); (case hx => rfl); (case h1 => rfl); clear S; intro bz wz S)
            | ((with_reducible apply wps_box1 (v := .pointer _) S); (case hx => rfl); (case h1 => rfl); clear S; intro bz wz S)
            | ((with_reducible apply wps_box1 (v := .map _) S); (case hx => rfl); (case h1 => rfl); clear S; intro bz wz S)
            | ((with_reducible apply wps_box1 (v := .string _) S); (case hx => rfl); (case h1 => rfl); clear S; intro bz wz S)
            | ((with_reducible apply wps_box1 (v := .func _ _ _) S); (case hx => rfl); (case h1 => rfl); clear S; intro bz wz S)
            | ((with_reducible apply wps_loada (T := 28) (k := 4) S 0); (case hx => rfl); (case hi => rfl); (case hT => decide +kernel); (case hk => exact Nat.le_of_ble_eq_true rfl))
            | ((with_reducible apply wps_loada (T := 45) (k := 6) S 0); (case hx => rfl); (case hi => rfl); (case hT => decide +kernel); (case hk => exact Nat.le_of_ble_eq_true rfl))
          go_ret
          exact ⟨rfl, S.below⟩
        · have HN : Hid (fv s key = (0, 14)) := fv_none hk
          have HO := Lib.hid hk
          have hpb := pull_back Hs.out (r := ⟨key, x0⟩) hk
          have HP1 := Lib.hid hpb.1
          have HP2 := Lib.hid hpb.2
          have hpl : (pushed s ⟨key, x0⟩).length ≤ 4294967296 := by have := pushed_length s ⟨key, x0⟩; omega
          have h43 : s.length < 4294967296 := by omega
          have e1 : (x0 == x0) = true := by simp
          clear hk hpb
          go_upto_region 14 with first
            | go_skip
            | ((with_reducible refine wpList_skip ?hw ?_); (case hw => with_unfolding_all rfl); simp only [Act.put, List.setIfInBounds_toArray, List.set_cons_succ, List.set_cons_zero])
            | (go_at_call 19; refine Calls.mono (hget_is _ _ key _ _ _ _ (S.get (i := 0) rfl).choose_spec HN.out) ?_; rintro e wz ⟨rfl, hE⟩; replace S := S.ext (Keep.of_below hE); clear hE)
            | ((with_reducible apply wps_loada (T := 28) (k := 4) S 3); (case hx => rfl); (case hi => rfl); (case hT => decide +kernel); (case hk => exact Nat.le_of_ble_eq_true rfl))
            | ((with_reducible refine tot_done ?ht ?_); (case ht => kernel_rfl))
            | ((with_reducible apply wps_boxa S); (case hx => rfl); clear S; intro bz wz S)
            | ((with_reducible apply wps_box1 (v := .int _ _) S); (case hx => rfl); (case h1 => rfl); clear S; intro bz wz S)
            | ((with_reducible apply wps_box1 (v := .bool _) S); (case hx => rfl); (case h1 => rfl); clear S; intro bz wz S)
            | ((with_reducible apply wps_box1 (v := .slice _ _ _) S); (case hx => rfl); (case h1 => rfl); clear S; intro bz wz S)
            | ((with_reducible apply wps_box1 (v := .pointer _) S); (case hx => rfl); (case h1 => rfl); clear S; intro bz wz S)
            | ((with_reducible apply wps_box1 (v := .map _) S); (case hx => rfl); (case h1 => rfl); clear S; intro bz wz S)
            | ((with_reducible apply wps_box1 (v := .string _) S); (case hx => rfl); (case h1 => rfl); clear S; intro bz wz S)
            | ((with_reducible apply wps_box1 (v := .func _ _ _) S); (case hx => rfl); (case h1 => rfl); clear S; intro bz wz S)
            | ((with_reducible apply wps_loada (T := 28) (k := 4) S 0); (case hx => rfl); (case hi => rfl); (case hT => decide +kernel); (case hk => exact Nat.le_of_ble_eq_true rfl))
            | ((with_reducible apply wps_loada (T := 45) (k := 6) S 0); (case hx => rfl); (case hi => rfl); (case hT => decide +kernel); (case hk => exact Nat.le_of_ble_eq_true rfl))
          go_wp2_with first
            | go_skip
            | ((with_reducible refine wpList_skip ?hw ?_); (case hw => with_unfolding_all rfl); simp only [Act.put, List.setIfInBounds_toArray, List.set_cons_succ, List.set_cons_zero])
            | ((with_reducible apply wps_loada (T := 28) (k := 4) S 3); (case hx => rfl); (case hi => rfl); (case hT => decide +kernel); (case hk => exact Nat.le_of_ble_eq_true rfl))
            | (go_at_call 21; obtain ⟨Fz, hF, hBk⟩ := S.lend1 0 rfl rfl; refine Calls.mono (hpush_new _ _ _ key _ _ _ hF HO.out rfl h43) ?_; rintro e wz ⟨rfl, T⟩; replace S := hBk _ _ rfl T; clear hBk hF T; simp only [List.set_cons_zero] at S)
            | (go_at_call 20; obtain ⟨Fz, hF, hBk⟩ := S.lend1 0 rfl rfl; refine Calls.mono (hpull_is _ _ _ key _ _ _ _ hF HP2.out HP1.out hpl) ?_; rintro e wz ⟨rfl, T⟩; replace S := hBk _ _ rfl T; clear hBk hF T; simp only [List.set_cons_zero] at S)
            | (go_at_call 22; refine Calls.mono (same_calls _ _ _ _ _ _ (S.get (i := 0) rfl).choose_spec (S.get (i := 1) rfl).choose_spec h65) ?_; rintro e wz ⟨rfl, hE⟩; replace S := S.ext (Keep.of_below hE); clear hE)
            | (go_at_call 17; refine Calls.mono (awake3_calls _) ?_; rintro e wz ⟨rfl, hE⟩; replace S := S.ext (Keep.of_below hE); clear hE)
            | ((with_reducible refine tot_done ?ht ?_); (case ht => kernel_rfl))
            | ((with_reducible apply wps_boxa S); (case hx => rfl); clear S; intro bz wz S)
            | ((with_reducible apply wps_box1 (v := .int _ _) S); (case hx => rfl); (case h1 => rfl); clear S; intro bz wz S)
            | ((with_reducible apply wps_box1 (v := .bool _) S); (case hx => rfl); (case h1 => rfl); clear S; intro bz wz S)
            | ((with_reducible apply wps_box1 (v := .slice _ _ _) S); (case hx => rfl); (case h1 => rfl); clear S; intro bz wz S)
            | ((with_reducible apply wps_box1 (v := .pointer _) S); (case hx => rfl); (case h1 => rfl); clear S; intro bz wz S)
            | ((with_reducible apply wps_box1 (v := .map _) S); (case hx => rfl); (case h1 => rfl); clear S; intro bz wz S)
            | ((with_reducible apply wps_box1 (v := .string _) S); (case hx => rfl); (case h1 => rfl); clear S; intro bz wz S)
            | ((with_reducible apply wps_box1 (v := .func _ _ _) S); (case hx => rfl); (case h1 => rfl); clear S; intro bz wz S)
            | ((with_reducible apply wps_loada (T := 28) (k := 4) S 0); (case hx => rfl); (case hi => rfl); (case hT => decide +kernel); (case hk => exact Nat.le_of_ble_eq_true rfl))
            | ((with_reducible apply wps_loada (T := 45) (k := 6) S 0); (case hx => rfl); (case hi => rfl); (case hT => decide +kernel); (case hk => exact Nat.le_of_ble_eq_true rfl))
          go_ret
          exact ⟨rfl, S.below⟩
  · have hd : decide (l.length ≤ 60) = false := decide_eq_false hl
    have Hd := Lib.hid hd
    clear hd
    go_enter Try.func5, Try.ntmps5
    go_wp2_with first
      | go_skip
      | ((with_reducible refine wpList_skip ?hw ?_); (case hw => with_unfolding_all rfl); simp only [Act.put, List.setIfInBounds_toArray, List.set_cons_succ, List.set_cons_zero])
      | ((with_reducible apply wps_boxa (E := 28) S); (case hx => rfl); clear S; intro b4 wz S)
      | (go_at_call 15; refine Calls.mono (hnew_calls _) ?_; rintro e wz ⟨B, rfl, T⟩; replace S := S.join T rfl; clear T; simp only [List.cons_append, List.nil_append] at S)
      | (go_at_call 16; refine Calls.mono (few_calls _ _ _ _ _ rfl) ?_; rintro e wz ⟨rfl, hE⟩; rw [Hd.out]; replace S := S.ext (Keep.of_below hE); clear hE)
      | (go_at_call 17; refine Calls.mono (awake3_calls _) ?_; rintro e wz ⟨rfl, hE⟩; replace S := S.ext (Keep.of_below hE); clear hE)
      | ((with_reducible refine tot_done ?ht ?_); (case ht => kernel_rfl))
      | ((with_reducible apply wps_boxa S); (case hx => rfl); clear S; intro bz wz S)
      | ((with_reducible apply wps_box1 (v := .int _ _) S); (case hx => rfl); (case h1 => rfl); clear S; intro bz wz S)
      | ((with_reducible apply wps_box1 (v := .bool _) S); (case hx => rfl); (case h1 => rfl); clear S; intro bz wz S)
      | ((with_reducible apply wps_box1 (v := .slice _ _ _) S); (case hx => rfl); (case h1 => rfl); clear S; intro bz wz S)
      | ((with_reducible apply wps_box1 (v := .pointer _) S); (case hx => rfl); (case h1 => rfl); clear S; intro bz wz S)
      | ((with_reducible apply wps_box1 (v := .map _) S); (case hx => rfl); (case h1 => rfl); clear S; intro bz wz S)
      | ((with_reducible apply wps_box1 (v := .string _) S); (case hx => rfl); (case h1 => rfl); clear S; intro bz wz S)
      | ((with_reducible apply wps_box1 (v := .func _ _ _) S); (case hx => rfl); (case h1 => rfl); clear S; intro bz wz S)
      | ((with_reducible apply wps_loada (T := 28) (k := 4) S 0); (case hx => rfl); (case hi => rfl); (case hT => decide +kernel); (case hk => exact Nat.le_of_ble_eq_true rfl))
      | ((with_reducible apply wps_loada (T := 45) (k := 6) S 0); (case hx => rfl); (case hi => rfl); (case hT => decide +kernel); (case hk => exact Nat.le_of_ble_eq_true rfl))
    go_ret
    exact ⟨rfl, S.below⟩
end Go.Proofs.Ytcbdacmdmaoegaa

import Derived.Test.YtcbdacmdmaoegaaH6
/- The walk of the law IheapCopies. -/
namespace Go.Proofs.Ytcbdacmdmaoegaa
open Go Go.RowKit Reg Mem

theorem ref_close {G : Nat → Prop} {w0 w : World} {L : List Asn} {B : Nat} {v : Value} {s : List Row} (S : St G w0 w (Blk false B #[v] 42 :: Sl false Row.cells 5 v s :: L)) : St G w0 w (refH false B s :: L) :=
  (S.close_sep rfl rfl).close_exs (A := fun v => sep false (Blk false B #[v] 42) (Sl false Row.cells 5 v s)) _ rfl
def CpRel (B B2 b6 b4 : Nat) (v : Value) (l : List Op3) (v2 : Value) (m : List Op3) (w : World) (i : Value) (wr : World) : Prop :=
  ∃ j : Nat, j ≤ l.length ∧ i = .int .i64 j ∧ St (fun _ => False) w wr [heapA B (afterE (l.take j)), refH false B2 (afterE (l.take j)), Sl true Op3.cells 6 v l, Sl true Op3.cells 6 v2 m, Blk false b6 #[.pointer (some ⟨B2, 0, none⟩)] 39, Blk false b4 #[.bool false] 4]
def CpRel2 (B B2 C D b6 b4 br : Nat) (s : List Row) (vr : Value) (v2 : Value) (m : List Op3) (w : World) (i : Value) (wr : World) : Prop :=
  ∃ j : Nat, j ≤ m.length ∧ i = .int .i64 j ∧ St (fun _ => False) w wr [heapA B ((m.take j).foldl stepE s), refH false D ((m.take j).foldl stepE s), Sl true Op3.cells 6 v2 m, Blk false b6 #[.pointer (some ⟨B2, 0, none⟩)] 39, Blk false b4 #[.bool false] 4, heapA C s, refH false B2 s, Blk true br #[vr] 83, Sl true Row.cells 5 vr s]
theorem more_step {s : List Row} {l : List Op3} {j : Nat} {o : Op3} (h : l[j]? = some o) : (l.take (j + 1)).foldl stepE s = stepE ((l.take j).foldl stepE s) o := by
  rw [take_snoc h, List.foldl_append]; rfl
def CmPhi (B B2 C D b4 b6 b12 : Nat) (s t : List Row) (vs : Value) (k : Nat) (L : List Asn) : Prop :=
  L = [Blk false b12 #[.int .i64 (k : Nat)] 3, Blk false b4 #[.bool false] 4, Blk false b6 #[.pointer (some ⟨B2, 0, none⟩)] 39, Blk false B2 #[vs] 42, Sl false Row.cells 5 vs s, heapA C s, heapA B t, refH false D t]
set_option maxRecDepth 100000 in
set_option maxHeartbeats 16000000 in
theorem iheapCopies_calls (v v2 : Value) (l m : List Op3) (w : World) (F F2 : Nat → Prop) (h : (Sl true Op3.cells 6 v l).at_ w F) (h2 : (Sl true Op3.cells 6 v2 m).at_ w F2) : Calls Try.prog 6 #[v, v2] w fun r w' => r = .returned (.bool true) ∧ Below w.heap.size w w' := by
  have S : St (fun _ => False) w w [Sl true Op3.cells 6 v l, Sl true Op3.cells 6 v2 m] := ((St.init _ w).share rfl rfl h2).share rfl rfl h
  obtain ⟨ad, cp, rfl, _⟩ := (S.sl 0 rfl).elim fun _ h => h.form
  obtain ⟨ad2, cp2, rfl, _⟩ := (S.sl 1 rfl).elim fun _ h => h.form
  clear h h2
  refine calls_marks Try.func6 rfl ?_
  simp only [Try.ntmps6, List.size_toArray, List.length_cons, List.length_nil, Nat.reduceAdd, Nat.reduceSub, Array.replicate_succ, Array.replicate_zero, List.push_toArray, List.append_toArray, List.nil_append, List.cons_append]
  by_cases hl : l.length ≤ 60
  case neg =>
    have Hd := Lib.hid (decide_eq_false hl)
    go_wp2_with first
      | go_skip
      | ((with_reducible refine wpList_skip ?hw ?_); (case hw => with_unfolding_all rfl); simp only [Act.put, List.setIfInBounds_toArray, List.set_cons_succ, List.set_cons_zero])
      | ((with_reducible apply wps_alloc1 (E := 4) S); (case hz => exact Try.zeroValue4); (case h1 => rfl); clear S; intro b4 wz S)
      | (go_at_call 15; refine Calls.mono (hnew_calls _) ?_; rintro e wz ⟨B, rfl, T⟩; replace S := S.join T rfl; clear T; simp only [List.cons_append, List.nil_append] at S)
      | (go_at_call 16; refine Calls.mono (few_calls _ _ _ _ _ rfl) ?_; rintro e wz ⟨rfl, hE⟩; (first | rw [Hd.out] | skip); replace S := S.ext (Keep.of_below hE); clear hE)
      | (go_at_call 17; refine Calls.mono (awake3_calls _) ?_; rintro e wz ⟨rfl, hE⟩; replace S := S.ext (Keep.of_below hE); clear hE)
      | ((with_reducible apply wps_store (u := .bool true) S 1); (case hx => rfl); (case hy => rfl); (case hi => rfl); (case hT => decide +kernel); (case h1 => rfl); (case hn => exact Nat.le_of_ble_eq_true rfl); clear S; intro wz S; simp only [List.set_cons_succ, List.set_cons_zero, List.setIfInBounds_toArray] at S)
      | ((with_reducible refine tot_done ?ht ?_); (case ht => kernel_rfl))
      | ((with_reducible apply wps_text S); (case hm => kernel_rfl); (case hB => decide +kernel); clear S; intro wz S)
      | ((with_reducible apply wps_load S 0); (case hx => rfl); (case hi => rfl); (case hT => decide +kernel); (case hu => rfl))
      | ((with_reducible apply wps_loada (T := 28) (k := 4) S 0); (case hx => rfl); (case hi => rfl); (case hT => decide +kernel); (case hk => exact Nat.le_of_ble_eq_true rfl))
      | ((with_reducible apply wps_loada (T := 45) (k := 6) S 0); (case hx => rfl); (case hi => rfl); (case hT => decide +kernel); (case hk => exact Nat.le_of_ble_eq_true rfl))
    exact leaves_ret rfl (results1 rfl (S.res1 1 rfl rfl (by kernel_rfl))) ⟨rfl, S.below⟩
  by_cases hm : m.length ≤ 60
  case neg =>
    have Hd := Lib.hid (decide_eq_true hl)
    have Hd2 := Lib.hid (decide_eq_false hm)
    go_wp2_with first
      | go_skip
      | ((with_reducible refine wpList_skip ?hw ?_); (case hw => with_unfolding_all rfl); simp only [Act.put, List.setIfInBounds_toArray, List.set_cons_succ, List.set_cons_zero])
      | ((with_reducible apply wps_alloc1 (E := 4) S); (case hz => exact Try.zeroValue4); (case h1 => rfl); clear S; intro b4 wz S)
      | (go_at_call 15; refine Calls.mono (hnew_calls _) ?_; rintro e wz ⟨B, rfl, T⟩; replace S := S.join T rfl; clear T; simp only [List.cons_append, List.nil_append] at S)
      | (go_at_call 16; refine Calls.mono (few_calls _ _ _ _ _ rfl) ?_; rintro e wz ⟨rfl, hE⟩; (first | rw [Hd.out] | rw [Hd2.out]); replace S := S.ext (Keep.of_below hE); clear hE)
      | (go_at_call 17; refine Calls.mono (awake3_calls _) ?_; rintro e wz ⟨rfl, hE⟩; replace S := S.ext (Keep.of_below hE); clear hE)
      | ((with_reducible apply wps_store (u := .bool true) S 1); (case hx => rfl); (case hy => rfl); (case hi => rfl); (case hT => decide +kernel); (case h1 => rfl); (case hn => exact Nat.le_of_ble_eq_true rfl); clear S; intro wz S; simp only [List.set_cons_succ, List.set_cons_zero, List.setIfInBounds_toArray] at S)
      | ((with_reducible refine tot_done ?ht ?_); (case ht => kernel_rfl))
      | ((with_reducible apply wps_text S); (case hm => kernel_rfl); (case hB => decide +kernel); clear S; intro wz S)
      | ((with_reducible apply wps_load S 0); (case hx => rfl); (case hi => rfl); (case hT => decide +kernel); (case hu => rfl))
      | ((with_reducible apply wps_loada (T := 28) (k := 4) S 0); (case hx => rfl); (case hi => rfl); (case hT => decide +kernel); (case hk => exact Nat.le_of_ble_eq_true rfl))
      | ((with_reducible apply wps_loada (T := 45) (k := 6) S 0); (case hx => rfl); (case hi => rfl); (case hT => decide +kernel); (case hk => exact Nat.le_of_ble_eq_true rfl))
    exact leaves_ret rfl (results1 rfl (S.res1 1 rfl rfl (by kernel_rfl))) ⟨rfl, S.below⟩
  have Hd := Lib.hid (decide_eq_true hl)
  have Hd2 := Lib.hid (decide_eq_true hm)
  have hq : ∀ (w : World) (b : Nat), (binOp .eql 53 (.func (.func 50) #[] #[.pointer (some ⟨b, 0, none⟩)]) .nilFunc).run Try.prog w = .ok (.bool false) w := fun w b => run_eql_func_nil w _ _ _ Try.underlying53
  go_wp2_with first
    | go_skip
    | ((with_reducible refine wpList_skip ?hw ?_); (case hw => with_unfolding_all rfl); simp only [Act.put, List.setIfInBounds_toArray, List.set_cons_succ, List.set_cons_zero])
    | ((with_reducible apply wps_alloc1 (E := 4) S); (case hz => exact Try.zeroValue4); (case h1 => rfl); clear S; intro b4 wz S)
    | (go_at_call 15; refine Calls.mono (hnew_calls _) ?_; rintro e wz ⟨B, rfl, T⟩; replace S := S.join T rfl; clear T; simp only [List.cons_append, List.nil_append] at S)
    | (go_at_call 16; refine Calls.mono (few_calls _ _ _ _ _ rfl) ?_; rintro e wz ⟨rfl, hE⟩; (first | rw [Hd.out] | rw [Hd2.out]); replace S := S.ext (Keep.of_below hE); clear hE)
    | ((with_reducible apply wps_boxa (E := 42) S); (case hx => rfl); clear S; intro B2 wz S)
    | ((with_reducible apply wps_alloc1 (E := 39) S); (case hz => exact Try.zeroValue39); (case h1 => rfl); clear S; intro b6 wz S)
    | ((with_reducible apply wps_store (u := .pointer (some ⟨B2, 0, none⟩)) S 0); (case hx => rfl); (case hy => rfl); (case hi => rfl); (case hT => decide +kernel); (case h1 => rfl); (case hn => exact Nat.le_of_ble_eq_true rfl); clear S; intro wz S; simp only [List.set_cons_zero, List.setIfInBounds_toArray] at S)
    | ((with_reducible refine tot_done ?ht ?_); (case ht => kernel_rfl))
    | ((with_reducible apply wps_text S); (case hm => kernel_rfl); (case hB => decide +kernel); clear S; intro wz S)
    | ((with_reducible apply wps_load S 0); (case hx => rfl); (case hi => rfl); (case hT => decide +kernel); (case hu => rfl))
    | ((with_reducible apply wps_loada (T := 28) (k := 4) S 0); (case hx => rfl); (case hi => rfl); (case hT => decide +kernel); (case hk => exact Nat.le_of_ble_eq_true rfl))
    | ((with_reducible apply wps_loada (T := 45) (k := 6) S 0); (case hx => rfl); (case hi => rfl); (case hT => decide +kernel); (case hk => exact Nat.le_of_ble_eq_true rfl))
  replace S := S.pick [1, 0, 2, 3, 4, 5] rfl
  simp only [pick, nth] at S
  replace S := ref_new S
  replace S := S.pick [2, 0, 4, 5, 1, 3] rfl
  simp only [pick, nth] at S
  go_loopw [7] (fun i wr => CpRel B B2 b6 b4 (.slice ad l.length cp) l (.slice ad2 m.length cp2) m w i wr) (fun i _ => l.length - (intOf i).toNat)
  case atStart => exact ⟨0, Nat.zero_le _, rfl, S⟩
  case round =>
    clear S
    obtain ⟨j, hj, rfl, S⟩ := hrel
    have Hs := Lib.hid (after_sorted (l.take j))
    have Hn := Lib.hid (after_len (l.take j))
    have hns : (afterE (l.take j)).length ≤ 65535 := by have := Hn.out; rw [List.length_take] at this; omega
    by_cases hlt : j < l.length
    · obtain ⟨x, hx⟩ : ∃ x, l[j]? = some x := ⟨_, List.getElem?_eq_getElem hlt⟩
      obtain ⟨R, o, rfl⟩ : ∃ R o, ad = some ⟨R, o, none⟩ := (S.sl 2 rfl).elim fun F h => h.head (by omega)
      have hlt2 : (j : Int) < l.length := by omega
      have hst := after_step hx
      have Hst := Lib.hid hst
      have Hx := Lib.hid hx
      clear hx
      clear hst
      generalize hsj : afterE (l.take j) = s at *
      go_wp2_with first
        | go_skip
        | ((with_reducible refine wpList_skip ?hw ?_); (case hw => with_unfolding_all rfl); simp only [Act.put, List.setIfInBounds_toArray, List.set_cons_succ, List.set_cons_zero])
        | ((with_reducible apply wps_load S 4); (case hx => rfl); (case hi => rfl); (case hT => decide +kernel); (case hu => rfl))
        | ((with_reducible apply wps_loada_el S 2 (hj := Hx.out) (q := 0) (vs := [.int .i64 x.ask, .int .i64 x.k.at_, .int .i64 x.k.src, .int .i64 x.k.sent, .int .i64 x.k.no, .int .i64 x.v]) (m := 6)); (case hx => rfl); (case hT => decide +kernel); (case hi => rfl); (case hn => omega); (case hm => rfl); (case hv => rfl))
        | ((with_reducible apply wps_loada_el S 2 (hj := Hx.out) (q := 1) (vs := [.int .i64 x.k.at_, .int .i64 x.k.src, .int .i64 x.k.sent, .int .i64 x.k.no]) (m := 4)); (case hx => rfl); (case hT => decide +kernel); (case hi => rfl); (case hn => omega); (case hm => rfl); (case hv => rfl))
        | (go_at_call 18; obtain ⟨Fz, hF, hBk⟩ := S.lend [0, 1] [] [2, 3, 4, 5] rfl rfl rfl; refine Calls.mono (does_calls _ _ _ x _ _ hF Hs.out hns) ?_; rintro e wz ⟨rfl, T⟩; replace S := hBk _ _ T rfl; clear hBk hF T; simp only [pick, nth, List.cons_append, List.nil_append] at S)
        | ((with_reducible refine tot_done ?ht ?_); (case ht => kernel_rfl))
        | ((with_reducible apply wps_text S); (case hm => kernel_rfl); (case hB => decide +kernel); clear S; intro wz S)
        | ((with_reducible apply wps_boxa S); (case hx => rfl); clear S; intro bz wz S)
        | ((with_reducible apply wps_box1 (v := .int _ _) S); (case hx => rfl); (case h1 => rfl); clear S; intro bz wz S)
        | ((with_reducible apply wps_box1 (v := .bool _) S); (case hx => rfl); (case h1 => rfl); clear S; intro bz wz S)
        | ((with_reducible apply wps_box1 (v := .slice _ _ _) S); (case hx => rfl); (case h1 => rfl); clear S; intro bz wz S)
        | ((with_reducible apply wps_box1 (v := .pointer _) S); (case hx => rfl); (case h1 => rfl); clear S; intro bz wz S)
        | ((with_reducible apply wps_box1 (v := .map _) S); (case hx => rfl); (case h1 => rfl); clear S; intro bz wz S)
        | ((with_reducible apply wps_box1 (v := .string _) S); (case hx => rfl); (case h1 => rfl); clear S; intro bz wz S)
        | ((with_reducible apply wps_box1 (v := .func _ _ _) S); (case hx => rfl); (case h1 => rfl); clear S; intro bz wz S)
        | ((with_reducible apply wps_alloc1 (E := 3) S); (case hz => exact Try.zeroValue3); (case h1 => rfl); clear S; intro bz wz S)
        | ((with_reducible apply wps_alloc1 (E := 4) S); (case hz => exact Try.zeroValue4); (case h1 => rfl); clear S; intro bz wz S)
        | ((with_reducible apply wps_alloca (E := 28) S); (case hz => exact Try.zeroValue28); clear S; intro bz wz S)
        | ((with_reducible apply wps_alloc1 (E := 39) S); (case hz => exact Try.zeroValue39); (case h1 => rfl); clear S; intro bz wz S)
        | ((with_reducible apply wps_load S 0); (case hx => rfl); (case hi => rfl); (case hT => decide +kernel); (case hu => rfl))
        | ((with_reducible apply wps_loada (T := 28) (k := 4) S 0); (case hx => rfl); (case hi => rfl); (case hT => decide +kernel); (case hk => exact Nat.le_of_ble_eq_true rfl))
        | ((with_reducible apply wps_loada (T := 45) (k := 6) S 0); (case hx => rfl); (case hi => rfl); (case hT => decide +kernel); (case hk => exact Nat.le_of_ble_eq_true rfl))
      go_roundw
      case rel => exact ⟨j + 1, by omega, by go_num, by rw [Hst.out]; exact S⟩
      case measure => first | (simp [intOf]; done) | (simp [intOf]; omega)
    · obtain rfl : j = l.length := by omega
      simp only [List.take_length] at S Hs Hn hns
      generalize hsj : afterE l = s at *
      have h65 : s.length ≤ 65536 := by omega
      have h42 : s.length ≤ 4294967296 := by omega
      have hsl : s.length ≤ 60 := by have := Hn.out; omega
      go_wp2_with first
        | go_skip
        | ((with_reducible refine wpList_skip ?hw ?_); (case hw => with_unfolding_all rfl); simp only [Act.put, List.setIfInBounds_toArray, List.set_cons_succ, List.set_cons_zero])
        | ((with_reducible apply wps_load S 5); (case hx => rfl); (case hi => rfl); (case hT => decide +kernel); (case hu => rfl))
        | ((with_reducible apply wps_load S 6); (case hx => rfl); (case hi => rfl); (case hT => decide +kernel); (case hu => rfl))
        | ((with_reducible apply wps_load S 7); (case hx => rfl); (case hi => rfl); (case hT => decide +kernel); (case hu => rfl))
        | ((with_reducible apply wps_load S 8); (case hx => rfl); (case hi => rfl); (case hT => decide +kernel); (case hu => rfl))
        | (go_at_call 23; refine Calls.mono (hcopy_calls _ _ _ _ (S.get (i := 0) rfl).choose_spec h42) ?_; rintro e wz ⟨C, rfl, T⟩; replace S := S.join T rfl; clear T; simp only [List.cons_append, List.nil_append] at S)
        | (go_at_call 24; refine Calls.mono (hall_calls _ _ _ _ (S.get (i := 1) rfl).choose_spec h42) ?_; rintro e wz ⟨br, ad5, c5, rfl, T⟩; replace S := S.join T rfl; clear T; simp only [List.cons_append, List.nil_append] at S)
        | (go_at_call 25; refine Calls.mono (rcopy_calls _ _ _ _ (S.get (i := 4) rfl).choose_spec h65) ?_; rintro e wz ⟨D, rfl, T⟩; replace S := S.join T rfl; clear T; simp only [List.cons_append, List.nil_append] at S)
        | (go_at_call 22; refine Calls.mono (same_calls _ _ _ _ _ _ (S.get (i := 3) rfl).choose_spec (S.get (i := 5) rfl).choose_spec h65) ?_; rintro e wz ⟨rfl, hE⟩; replace S := S.ext (Keep.of_below hE); clear hE)
        | ((with_reducible refine tot_done ?ht ?_); (case ht => kernel_rfl))
        | ((with_reducible apply wps_text S); (case hm => kernel_rfl); (case hB => decide +kernel); clear S; intro wz S)
        | ((with_reducible apply wps_load S 0); (case hx => rfl); (case hi => rfl); (case hT => decide +kernel); (case hu => rfl))
        | ((with_reducible apply wps_loada (T := 28) (k := 4) S 0); (case hx => rfl); (case hi => rfl); (case hT => decide +kernel); (case hk => exact Nat.le_of_ble_eq_true rfl))
        | ((with_reducible apply wps_loada (T := 45) (k := 6) S 0); (case hx => rfl); (case hi => rfl); (case hT => decide +kernel); (case hk => exact Nat.le_of_ble_eq_true rfl))
      replace S := (S.freeze true 2 hcells rfl).weak (i := 1) (A' := Blk true br #[.slice ad5 s.length c5] 83) rfl (fun e => by cases e) (fun F h => ⟨F, fun _ hb => hb, h⟩)
      replace S := S.pick [4, 0, 7, 8, 9, 3, 5, 1, 2] rfl
      simp only [List.set_cons_zero, List.set_cons_succ, pick, nth] at S
      clear Hd Hd2 hq hj Hn hns
      go_loopw [11] (fun i wr => CpRel2 B B2 C D b6 b4 br s (.slice ad5 s.length c5) (.slice ad2 m.length cp2) m w i wr) (fun i _ => m.length - (intOf i).toNat)
      case atStart => exact ⟨0, Nat.zero_le _, rfl, S⟩
      case round =>
        clear S
        obtain ⟨j, hj, rfl, S⟩ := hrel
        have Hst := Lib.hid (after_sorted_from (m.take j) s Hs.out)
        have hnt : ((m.take j).foldl stepE s).length ≤ 65535 := by have := after_len_from (m.take j) s; rw [List.length_take] at this; omega
        by_cases hlt : j < m.length
        · obtain ⟨x, hx⟩ : ∃ x, m[j]? = some x := ⟨_, List.getElem?_eq_getElem hlt⟩
          obtain ⟨R, o, rfl⟩ : ∃ R o, ad2 = some ⟨R, o, none⟩ := (S.sl 2 rfl).elim fun F h => h.head (by omega)
          have hlt2 : (j : Int) < m.length := by omega
          have Hms := Lib.hid (more_step (s := s) hx)
          have Hx := Lib.hid hx
          clear hx
          generalize htj : (m.take j).foldl stepE s = t at *
          go_wp2_with first
            | go_skip
            | ((with_reducible refine wpList_skip ?hw ?_); (case hw => with_unfolding_all rfl); simp only [Act.put, List.setIfInBounds_toArray, List.set_cons_succ, List.set_cons_zero])
            | ((with_reducible apply wps_loada_el S 2 (hj := Hx.out) (q := 0) (vs := [.int .i64 x.ask, .int .i64 x.k.at_, .int .i64 x.k.src, .int .i64 x.k.sent, .int .i64 x.k.no, .int .i64 x.v]) (m := 6)); (case hx => rfl); (case hT => decide +kernel); (case hi => rfl); (case hn => omega); (case hm => rfl); (case hv => rfl))
            | ((with_reducible apply wps_loada_el S 2 (hj := Hx.out) (q := 1) (vs := [.int .i64 x.k.at_, .int .i64 x.k.src, .int .i64 x.k.sent, .int .i64 x.k.no]) (m := 4)); (case hx => rfl); (case hT => decide +kernel); (case hi => rfl); (case hn => omega); (case hm => rfl); (case hv => rfl))
            | (go_at_call 18; obtain ⟨Fz, hF, hBk⟩ := S.lend [0, 1] [] [2, 3, 4, 5, 6, 7, 8] rfl rfl rfl; refine Calls.mono (does_calls _ _ _ x _ _ hF Hst.out hnt) ?_; rintro e wz ⟨rfl, T⟩; replace S := hBk _ _ T rfl; clear hBk hF T; simp only [pick, nth, List.cons_append, List.nil_append] at S)
            | ((with_reducible refine tot_done ?ht ?_); (case ht => kernel_rfl))
            | ((with_reducible apply wps_text S); (case hm => kernel_rfl); (case hB => decide +kernel); clear S; intro wz S)
            | ((with_reducible apply wps_boxa S); (case hx => rfl); clear S; intro bz wz S)
            | ((with_reducible apply wps_box1 (v := .int _ _) S); (case hx => rfl); (case h1 => rfl); clear S; intro bz wz S)
            | ((with_reducible apply wps_box1 (v := .bool _) S); (case hx => rfl); (case h1 => rfl); clear S; intro bz wz S)
            | ((with_reducible apply wps_box1 (v := .slice _ _ _) S); (case hx => rfl); (case h1 => rfl); clear S; intro bz wz S)
            | ((with_reducible apply wps_box1 (v := .pointer _) S); (case hx => rfl); (case h1 => rfl); clear S; intro bz wz S)
            | ((with_reducible apply wps_box1 (v := .map _) S); (case hx => rfl); (case h1 => rfl); clear S; intro bz wz S)
            | ((with_reducible apply wps_box1 (v := .string _) S); (case hx => rfl); (case h1 => rfl); clear S; intro bz wz S)
            | ((with_reducible apply wps_box1 (v := .func _ _ _) S); (case hx => rfl); (case h1 => rfl); clear S; intro bz wz S)
            | ((with_reducible apply wps_alloc1 (E := 3) S); (case hz => exact Try.zeroValue3); (case h1 => rfl); clear S; intro bz wz S)
            | ((with_reducible apply wps_alloc1 (E := 4) S); (case hz => exact Try.zeroValue4); (case h1 => rfl); clear S; intro bz wz S)
            | ((with_reducible apply wps_alloca (E := 28) S); (case hz => exact Try.zeroValue28); clear S; intro bz wz S)
            | ((with_reducible apply wps_alloc1 (E := 39) S); (case hz => exact Try.zeroValue39); (case h1 => rfl); clear S; intro bz wz S)
            | ((with_reducible apply wps_load S 0); (case hx => rfl); (case hi => rfl); (case hT => decide +kernel); (case hu => rfl))
            | ((with_reducible apply wps_loada (T := 28) (k := 4) S 0); (case hx => rfl); (case hi => rfl); (case hT => decide +kernel); (case hk => exact Nat.le_of_ble_eq_true rfl))
            | ((with_reducible apply wps_loada (T := 45) (k := 6) S 0); (case hx => rfl); (case hi => rfl); (case hT => decide +kernel); (case hk => exact Nat.le_of_ble_eq_true rfl))
          go_roundw
          case rel => exact ⟨j + 1, by omega, by go_num, by rw [Hms.out]; exact S⟩
          case measure => first | (simp [intOf]; done) | (simp [intOf]; omega)
        · obtain rfl : j = m.length := by omega
          simp only [List.take_length] at S Hst hnt
          generalize htj : m.foldl stepE s = t at *
          have ht65 : t.length ≤ 65536 := by omega
          go_wp2_with first
            | go_skip
            | ((with_reducible refine wpList_skip ?hw ?_); (case hw => with_unfolding_all rfl); simp only [Act.put, List.setIfInBounds_toArray, List.set_cons_succ, List.set_cons_zero])
            | ((with_reducible apply wps_alloc1 (E := 3) S); (case hz => exact Try.zeroValue3); (case h1 => rfl); clear S; intro b12 wz S)
            | ((with_reducible apply wps_store (u := .int .i64 0) S 0); (case hx => rfl); (case hy => rfl); (case hi => rfl); (case hT => decide +kernel); (case h1 => rfl); (case hn => exact Nat.le_of_ble_eq_true rfl); clear S; intro wz S; simp only [List.set_cons_zero, List.setIfInBounds_toArray] at S)
            | ((with_reducible refine tot_done ?ht ?_); (case ht => kernel_rfl))
            | ((with_reducible apply wps_text S); (case hm => kernel_rfl); (case hB => decide +kernel); clear S; intro wz S)
            | ((with_reducible apply wps_load S 0); (case hx => rfl); (case hi => rfl); (case hT => decide +kernel); (case hu => rfl))
            | ((with_reducible apply wps_loada (T := 28) (k := 4) S 0); (case hx => rfl); (case hi => rfl); (case hT => decide +kernel); (case hk => exact Nat.le_of_ble_eq_true rfl))
            | ((with_reducible apply wps_loada (T := 45) (k := 6) S 0); (case hx => rfl); (case hi => rfl); (case hT => decide +kernel); (case hk => exact Nat.le_of_ble_eq_true rfl))
          replace S := S.pick [7, 8, 9, 0, 5, 4, 6, 1, 2] rfl
          simp only [pick, nth] at S
          obtain ⟨vs, S⟩ := S.open_exs (fun _ => rfl)
          replace S := (S.open_sep rfl rfl).pick [2, 3, 4, 5, 6, 0, 1, 7, 8, 9] rfl
          simp only [pick, nth] at S
          obtain ⟨adr, cpr, rfl, _⟩ := (S.sl 6 rfl).elim fun _ h => h.form
          have Ht65 := Lib.hid ht65
          clear ht65 hnt hj hlt
          refine wps_range (all2_iter br ad5 c5 s h65) S rfl (calls_enter Try.func50 (by kernel_rfl) rfl) (CmPhi B B2 C D b4 b6 b12 s t (.slice adr s.length cpr)) (fun _ _ _ => False) rfl (fun x args N h => by obtain ⟨rfl, _⟩ := h; rfl) ?round ?done ?stop
          case stop => intro _ _ _ _ _ _ h; exact h.elim
          case round =>
            rintro lp Dr r k x args N L W hx ⟨rfl, rfl⟩ hL S
            unfold CmPhi at hL
            subst hL
            simp only [zip_two, List.setIfInBounds_toArray, List.set_cons_succ, List.set_cons_zero, List.cons_append, List.nil_append] at S ⊢
            have hkl := (List.getElem?_eq_some_iff.1 hx).1
            obtain ⟨R, o, rfl⟩ : ∃ R o, adr = some ⟨R, o, none⟩ := (S.sl 6 rfl).elim fun F h => h.head (by omega)
            have Hx := Lib.hid hx
            clear hx
            have hlt : decide ((s.length : Int) ≤ k) = false := decide_eq_false (by omega)
            have hltn : decide (s.length ≤ k) = false := decide_eq_false (by omega)
            have hlt2 : (k : Int) < s.length := by omega
            have HK := Lib.hid (key_nceqs0 x.key)
            have hvv : (x.v != x.v) = false := by simp
            gi_wp2_with first
              | (refine wpi_at (.inr ⟨_, rfl⟩) rfl fun K hK => ?_
                 go_wp2_with first
                   | go_skip
                   | ((with_reducible refine wpList_skip ?hw ?_); (case hw => with_unfolding_all rfl); simp only [Act.put, List.setIfInBounds_toArray, List.set_cons_succ, List.set_cons_zero])
                   | ((with_reducible refine tot_done ?ht ?_); (case ht => kernel_rfl))
                   | ((with_reducible apply wps_alloca (E := 28) S); (case hz => exact Try.zeroValue28); clear S; intro b7 wz S)
                   | ((with_reducible apply wps_storea (T := 28) S 0 (vs := [.int .i64 x.key.at_, .int .i64 x.key.src, .int .i64 x.key.sent, .int .i64 x.key.no]) (m := 4)); (case hx => rfl); (case hy => rfl); (case hi => rfl); (case hT => decide +kernel); (case hm => rfl); (case h1 => rfl); (case hn => exact Nat.le_of_ble_eq_true rfl); clear S; intro wz S; simp only [List.set_cons_zero, List.set_cons_succ, setAll, List.setIfInBounds_toArray] at S)
                 refine hK _ _ ?_
                 (try simp only [Act.put]); (try simp only [List.setIfInBounds_toArray]); (try simp only [List.set_cons_succ]); (try simp only [List.set_cons_zero])
                 clear hK K)
            refine ⟨_, S.lastSplit rfl, fun r' W2 S => ?_⟩
            simp only [List.dropLast, List.cons_append, List.nil_append] at S
            gi_wp2_with first
              | (refine wpi_at (.inr ⟨_, rfl⟩) rfl fun K hK => ?_
                 go_wp2_with first
                   | go_skip
                   | ((with_reducible refine wpList_skip ?hw ?_); (case hw => with_unfolding_all rfl); simp only [Act.put, List.setIfInBounds_toArray, List.set_cons_succ, List.set_cons_zero])
                   | ((with_reducible refine tot_done ?ht ?_); (case ht => kernel_rfl))
                   | ((with_reducible apply wps_load S 3); (case hx => rfl); (case hi => rfl); (case hT => decide +kernel); (case hu => rfl))
                   | ((with_reducible apply wps_load S 5); (case hx => rfl); (case hi => rfl); (case hT => decide +kernel); (case hu => rfl))
                   | ((with_reducible apply wps_load S 6); (case hx => rfl); (case hi => rfl); (case hT => decide +kernel); (case hu => rfl))
                   | ((with_reducible apply wps_loada (T := 28) (k := 4) S 0); (case hx => rfl); (case hi => rfl); (case hT => decide +kernel); (case hk => exact Nat.le_of_ble_eq_true rfl))
                   | ((with_reducible apply wps_loada_el S 7 (hj := Hx.out) (q := 0) (vs := [.int .i64 x.key.at_, .int .i64 x.key.src, .int .i64 x.key.sent, .int .i64 x.key.no]) (m := 4)); (case hx => rfl); (case hT => decide +kernel); (case hi => rfl); (case hn => omega); (case hm => rfl); (case hv => rfl))
                   | ((with_reducible apply wps_load_el S 7 (hj := Hx.out) (q := 4) (u := .int .i64 x.v)); (case hx => rfl); (case hi => rfl); (case hn => omega); (case hT => decide +kernel); (case hu => rfl))
                   | ((with_reducible apply wpList_neq_agg (t := 28) (ks := [.int .i64, .int .i64, .int .i64, .int .i64]) (b := _)); (case hx => rfl); (case hy => rfl); (case hl => kernel_rfl); (case ha => kernel_rfl); (case hg => kernel_rfl); (case hfx => rfl); (case hfy => rfl); (case hb => exact HK.out))
                   | ((with_reducible apply wps_store (u := .int .i64 ((k:Int) + 1)) S 3); (case hx => rfl); (case hy => rfl); (case hi => rfl); (case hT => decide +kernel); (case h1 => rfl); (case hn => exact Nat.le_of_ble_eq_true rfl); clear S; intro wz S; simp only [List.set_cons_succ, List.set_cons_zero, List.setIfInBounds_toArray] at S)
                 refine hK _ _ ?_
                 (try simp only [Act.put]); (try simp only [List.setIfInBounds_toArray]); (try simp only [List.set_cons_succ]); (try simp only [List.set_cons_zero])
                 clear hK K)
              | (refine wpi_text_k S (.inr ⟨_, rfl⟩) rfl ?hm ?hB fun K hK wz S => ?_
                 case hm => kernel_rfl
                 case hB => decide +kernel
                 go_wp2_with first
                   | go_skip
                   | ((with_reducible refine wpList_skip ?hw ?_); (case hw => with_unfolding_all rfl); simp only [Act.put, List.setIfInBounds_toArray, List.set_cons_succ, List.set_cons_zero])
                   | ((with_reducible refine tot_done ?ht ?_); (case ht => kernel_rfl))
                   | ((with_reducible apply wps_load S 3); (case hx => rfl); (case hi => rfl); (case hT => decide +kernel); (case hu => rfl))
                   | ((with_reducible apply wps_load S 5); (case hx => rfl); (case hi => rfl); (case hT => decide +kernel); (case hu => rfl))
                   | ((with_reducible apply wps_load S 6); (case hx => rfl); (case hi => rfl); (case hT => decide +kernel); (case hu => rfl))
                   | ((with_reducible apply wps_loada (T := 28) (k := 4) S 0); (case hx => rfl); (case hi => rfl); (case hT => decide +kernel); (case hk => exact Nat.le_of_ble_eq_true rfl))
                   | ((with_reducible apply wps_loada_el S 7 (hj := Hx.out) (q := 0) (vs := [.int .i64 x.key.at_, .int .i64 x.key.src, .int .i64 x.key.sent, .int .i64 x.key.no]) (m := 4)); (case hx => rfl); (case hT => decide +kernel); (case hi => rfl); (case hn => omega); (case hm => rfl); (case hv => rfl))
                   | ((with_reducible apply wps_load_el S 7 (hj := Hx.out) (q := 4) (u := .int .i64 x.v)); (case hx => rfl); (case hi => rfl); (case hn => omega); (case hT => decide +kernel); (case hu => rfl))
                   | ((with_reducible apply wpList_neq_agg (t := 28) (ks := [.int .i64, .int .i64, .int .i64, .int .i64]) (b := _)); (case hx => rfl); (case hy => rfl); (case hl => kernel_rfl); (case ha => kernel_rfl); (case hg => kernel_rfl); (case hfx => rfl); (case hfy => rfl); (case hb => exact HK.out))
                   | ((with_reducible apply wps_store (u := .int .i64 ((k:Int) + 1)) S 3); (case hx => rfl); (case hy => rfl); (case hi => rfl); (case hT => decide +kernel); (case h1 => rfl); (case hn => exact Nat.le_of_ble_eq_true rfl); clear S; intro wz S; simp only [List.set_cons_succ, List.set_cons_zero, List.setIfInBounds_toArray] at S)
                 refine hK _ _ ?_
                 clear hK K)
            rw [show (k : Int) + 1 = ((k + 1 : Nat) : Int) from rfl] at S
            exact ⟨[Blk false b12 #[.int .i64 ((k + 1 : Nat) : Int)] 3, Blk false b4 #[.bool false] 4, Blk false b6 #[.pointer (some ⟨B2, 0, none⟩)] 39, Blk false B2 #[.slice (some ⟨R, o, none⟩) s.length cpr] 42, Sl false Row.cells 5 (.slice (some ⟨R, o, none⟩) s.length cpr) s, heapA C s, heapA B t, refH false D t], rfl, S.pick [1, 2, 3, 4, 5, 6, 7, 8, 9, 10, 11] rfl⟩
          case done =>
            rintro Dr W L hL S
            unfold CmPhi at hL
            subst hL
            simp only [List.cons_append, List.nil_append] at S
            have kq : (((s.length : Nat) : Int) == (s.length : Nat)) = true := by simp
            go_wp2_with first
              | go_skip
              | ((with_reducible refine wpList_skip ?hw ?_); (case hw => with_unfolding_all rfl); simp only [Act.put, List.setIfInBounds_toArray, List.set_cons_succ, List.set_cons_zero])
            replace S := S.pick [0, 3, 5, 6, 7, 8, 9, 10, 4] rfl
            simp only [pick, nth] at S
            (refine wp_region_wt (soft := [0, 1, 2, 3, 4, 5, 6, 7, 8, 9, 10, 11, 12, 13, 14, 15, 16, 17, 18, 19]) (L := [_, _, _, _, _, _, _, _]) (T := [_]) S ?hm ?hB ?_); (case hm => kernel_rfl); (case hB => decide +kernel); clear S
            iterate 20
              (with_reducible apply softs_cons)
              (case hw =>
                (with_reducible apply soft_of); (case hi => rfl)
                intro T wz S
                simp only [List.cons_append, List.nil_append] at S
                go_wp2_with first
                  | go_skip
                  | ((with_reducible apply wps_load S 1); (case hx => rfl); (case hi => rfl); (case hT => decide +kernel); (case hu => rfl))
                  | ((with_reducible apply wps_load S 2); (case hx => rfl); (case hi => rfl); (case hT => decide +kernel); (case hu => rfl))
                  | ((with_reducible apply wps_load S 3); (case hx => rfl); (case hi => rfl); (case hT => decide +kernel); (case hu => rfl))
                  | (go_at_call 22; have hcz := same_calls C B2 s _ _ _ (S.get (i := 5) rfl).choose_spec ((ref_close (S.pick [3, 4] rfl)).get (i := 0) rfl).choose_spec h65; (with_reducible refine Calls.mono hcz ?_); clear hcz; rintro e wz ⟨rfl, hE⟩; replace S := S.ext (Keep.of_below hE); clear hE)
                  | (go_at_call 22; have hcz := same_calls B D t _ _ _ (S.get (i := 6) rfl).choose_spec (S.get (i := 7) rfl).choose_spec Ht65.out; (with_reducible refine Calls.mono hcz ?_); clear hcz; rintro e wz ⟨rfl, hE⟩; replace S := S.ext (Keep.of_below hE); clear hE)
                  | (go_at_call 17; refine Calls.mono (awake3_calls _) ?_; rintro e wz ⟨rfl, hE⟩; replace S := S.ext (Keep.of_below hE); clear hE)
                  | ((with_reducible apply wps_store (u := .bool true) S 8); (case hx => rfl); (case hy => rfl); (case hi => rfl); (case hT => decide +kernel); (case h1 => rfl); (case hn => exact Nat.le_of_ble_eq_true rfl); clear S; intro wz S; simp only [List.set_cons_succ, List.set_cons_zero, List.setIfInBounds_toArray] at S)
                  | ((with_reducible refine tot_done ?ht ?_); (case ht => kernel_rfl))
                  | ((with_reducible apply wps_boxa S); (case hx => rfl); clear S; intro bz wz S)
                  | ((with_reducible apply wps_box1 (v := .int _ _) S); (case hx => rfl); (case h1 => rfl); clear S; intro bz wz S)
                  | ((with_reducible apply wps_box1 (v := .bool _) S); (case hx => rfl); (case h1 => rfl); clear S; intro bz wz S)
                  | ((with_reducible apply wps_box1 (v := .slice _ _ _) S); (case hx => rfl); (case h1 => rfl); clear S; intro bz wz S)
                  | ((with_reducible apply wps_box1 (v := .pointer _) S); (case hx => rfl); (case h1 => rfl); clear S; intro bz wz S)
                  | ((with_reducible apply wps_box1 (v := .map _) S); (case hx => rfl); (case h1 => rfl); clear S; intro bz wz S)
                  | ((with_reducible apply wps_box1 (v := .string _) S); (case hx => rfl); (case h1 => rfl); clear S; intro bz wz S)
                  | ((with_reducible apply wps_box1 (v := .func _ _ _) S); (case hx => rfl); (case h1 => rfl); clear S; intro bz wz S)
                  | ((with_reducible apply wps_alloc1 (E := 3) S); (case hz => exact Try.zeroValue3); (case h1 => rfl); clear S; intro bz wz S)
                  | ((with_reducible apply wps_alloc1 (E := 4) S); (case hz => exact Try.zeroValue4); (case h1 => rfl); clear S; intro bz wz S)
                  | ((with_reducible apply wps_alloca (E := 28) S); (case hz => exact Try.zeroValue28); clear S; intro bz wz S)
                  | ((with_reducible apply wps_alloc1 (E := 39) S); (case hz => exact Try.zeroValue39); (case h1 => rfl); clear S; intro bz wz S)
                  | ((with_reducible apply wps_load S 0); (case hx => rfl); (case hi => rfl); (case hT => decide +kernel); (case hu => rfl))
                  | ((with_reducible apply wps_loada (T := 28) (k := 4) S 0); (case hx => rfl); (case hi => rfl); (case hT => decide +kernel); (case hk => exact Nat.le_of_ble_eq_true rfl))
                  | ((with_reducible apply wps_loada (T := 45) (k := 6) S 0); (case hx => rfl); (case hi => rfl); (case hT => decide +kernel); (case hk => exact Nat.le_of_ble_eq_true rfl))
                exact ⟨rfl, S⟩)
              (case hs => exact ⟨_, rfl, by kernel_rfl⟩)
            refine softs_nil ?_
            (with_reducible apply W_hard1 (i := 20)); (case hn => rfl); (case hr => decide +kernel)
            intro wz S
            (with_reducible apply hard_of); (case hi => rfl)
            simp only [List.cons_append, List.nil_append] at S
            go_wp2_with first
              | go_skip
              | ((with_reducible apply wps_load S 1); (case hx => rfl); (case hi => rfl); (case hT => decide +kernel); (case hu => rfl))
              | ((with_reducible apply wps_load S 2); (case hx => rfl); (case hi => rfl); (case hT => decide +kernel); (case hu => rfl))
              | ((with_reducible apply wps_load S 3); (case hx => rfl); (case hi => rfl); (case hT => decide +kernel); (case hu => rfl))
              | (go_at_call 22; have hcz := same_calls C B2 s _ _ _ (S.get (i := 5) rfl).choose_spec ((ref_close (S.pick [3, 4] rfl)).get (i := 0) rfl).choose_spec h65; (with_reducible refine Calls.mono hcz ?_); clear hcz; rintro e wz ⟨rfl, hE⟩; replace S := S.ext (Keep.of_below hE); clear hE)
              | (go_at_call 22; have hcz := same_calls B D t _ _ _ (S.get (i := 6) rfl).choose_spec (S.get (i := 7) rfl).choose_spec Ht65.out; (with_reducible refine Calls.mono hcz ?_); clear hcz; rintro e wz ⟨rfl, hE⟩; replace S := S.ext (Keep.of_below hE); clear hE)
              | (go_at_call 17; refine Calls.mono (awake3_calls _) ?_; rintro e wz ⟨rfl, hE⟩; replace S := S.ext (Keep.of_below hE); clear hE)
              | ((with_reducible apply wps_store (u := .bool true) S 8); (case hx => rfl); (case hy => rfl); (case hi => rfl); (case hT => decide +kernel); (case h1 => rfl); (case hn => exact Nat.le_of_ble_eq_true rfl); clear S; intro wz S; simp only [List.set_cons_succ, List.set_cons_zero, List.setIfInBounds_toArray] at S)
              | ((with_reducible refine tot_done ?ht ?_); (case ht => kernel_rfl))
              | ((with_reducible apply wps_boxa S); (case hx => rfl); clear S; intro bz wz S)
              | ((with_reducible apply wps_box1 (v := .int _ _) S); (case hx => rfl); (case h1 => rfl); clear S; intro bz wz S)
              | ((with_reducible apply wps_box1 (v := .bool _) S); (case hx => rfl); (case h1 => rfl); clear S; intro bz wz S)
              | ((with_reducible apply wps_box1 (v := .slice _ _ _) S); (case hx => rfl); (case h1 => rfl); clear S; intro bz wz S)
              | ((with_reducible apply wps_box1 (v := .pointer _) S); (case hx => rfl); (case h1 => rfl); clear S; intro bz wz S)
              | ((with_reducible apply wps_box1 (v := .map _) S); (case hx => rfl); (case h1 => rfl); clear S; intro bz wz S)
              | ((with_reducible apply wps_box1 (v := .string _) S); (case hx => rfl); (case h1 => rfl); clear S; intro bz wz S)
              | ((with_reducible apply wps_box1 (v := .func _ _ _) S); (case hx => rfl); (case h1 => rfl); clear S; intro bz wz S)
              | ((with_reducible apply wps_alloc1 (E := 3) S); (case hz => exact Try.zeroValue3); (case h1 => rfl); clear S; intro bz wz S)
              | ((with_reducible apply wps_alloc1 (E := 4) S); (case hz => exact Try.zeroValue4); (case h1 => rfl); clear S; intro bz wz S)
              | ((with_reducible apply wps_alloca (E := 28) S); (case hz => exact Try.zeroValue28); clear S; intro bz wz S)
              | ((with_reducible apply wps_alloc1 (E := 39) S); (case hz => exact Try.zeroValue39); (case h1 => rfl); clear S; intro bz wz S)
              | ((with_reducible apply wps_load S 0); (case hx => rfl); (case hi => rfl); (case hT => decide +kernel); (case hu => rfl))
              | ((with_reducible apply wps_loada (T := 28) (k := 4) S 0); (case hx => rfl); (case hi => rfl); (case hT => decide +kernel); (case hk => exact Nat.le_of_ble_eq_true rfl))
              | ((with_reducible apply wps_loada (T := 45) (k := 6) S 0); (case hx => rfl); (case hi => rfl); (case hT => decide +kernel); (case hk => exact Nat.le_of_ble_eq_true rfl))
            refine ⟨_, S, ?_⟩
            clear S
            (with_reducible apply W_done); (case hn => rfl); (case hr => decide +kernel)
            intro wz S
            repeat (first | simp only at S | simp only [pick] at S | simp only [nth] at S | simp only [List.set_cons_succ] at S | simp only [List.set_cons_zero] at S | simp only [List.setIfInBounds_toArray] at S | simp only [setAll] at S | simp only [List.cons_append] at S | simp only [List.nil_append] at S | simp only [List.append_nil] at S)
            go_wp2_with first
              | go_skip
              | ((with_reducible refine wpList_skip ?hw ?_); (case hw => with_unfolding_all rfl); simp only [Act.put, List.setIfInBounds_toArray, List.set_cons_succ, List.set_cons_zero])
            refine leaves_ret1 S rfl fun w' S => ⟨_, results1 rfl (S.res1 7 rfl rfl (by kernel_rfl)), ⟨rfl, S.below⟩⟩
end Go.Proofs.Ytcbdacmdmaoegaa

import Derived.Test.YtejdfgonkfgnfaaL6
/- The walk of the law KeysSame. -/
namespace Go.Proofs.Ytejdfgonkfgnfaa
open Go Go.RowKit Reg Mem

/-- No key is behind a later one. -/
def Rise (l : List Event) : Prop := l.Pairwise fun a b => b.key.lt a.key = false
theorem slt_rise {x y : TE} (h : slt x y) : y.1.key.lt x.1.key = false := by
  simp only [slt, tless, Bool.eq_false_iff, ne_eq, Key.lt_iff] at *; omega
theorem sortE_rise (l : List Event) : Rise (sortE l) := by
  obtain ⟨ys, _, h2, h3⟩ := sortE_ex l
  rw [← h3]
  exact List.pairwise_map.2 (h2.imp fun h => slt_rise h)
theorem sortE_id {l : List Event} (h : Rise l) : sortE l = l := by
  have hs : Srt (tag l) := by
    rw [Srt, List.pairwise_iff_getElem]
    intro i j hi hj hij
    have e1 := tag_get l i
    have e2 := tag_get l j
    rw [tag_len] at hi hj
    rw [List.getElem?_eq_getElem (by rw [tag_len]; exact hi), List.getElem?_eq_getElem hi] at e1
    rw [List.getElem?_eq_getElem (by rw [tag_len]; exact hj), List.getElem?_eq_getElem hj] at e2
    simp only [Option.map_some, Option.some.injEq] at e1 e2
    rw [e1, e2]
    exact slt_no (List.pairwise_iff_getElem.1 h i j hi hj hij) hij
  rw [← sortE_of (List.Perm.refl _) hs, tag_map]
def cnt (x : Event) (l : List Event) (k : Nat) : Nat := (l.take k).countP fun e => decide (e = x)
theorem cnt_step {x a : Event} {l : List Event} {k : Nat} (h : l[k]? = some a) : cnt x l (k + 1) = cnt x l k + if decide (a = x) then 1 else 0 := by
  simp only [cnt]
  rw [List.take_add_one, h]; simp [List.countP_append, List.countP_cons]
theorem cnt_le (x : Event) (l : List Event) (k : Nat) : cnt x l k ≤ k := Nat.le_trans List.countP_le_length (by simp; omega)
theorem cnt_same (x : Event) (l : List Event) : cnt x l l.length = cnt x (sortE l) l.length := by
  simp only [cnt]
  rw [List.take_of_length_le (Nat.le_refl _), List.take_of_length_le (by rw [sortE_len]; exact Nat.le_refl _)]
  exact ((sortE_perm l).countP_eq _).symm
def SameRel (vl vs : Value) (l s : List Event) (w : World) (i : Value) (wr : World) : Prop :=
  ∃ j : Nat, j ≤ l.length ∧ i = .int .i64 j ∧ St (fun _ => False) w wr [Sl true Event.cells 7 vs s, Sl true Event.cells 7 vl l]
def SameRel2 (vl vs : Value) (l s : List Event) (x : Event) (w : World) (n m k : Value) (wr : World) : Prop :=
  ∃ j : Nat, j ≤ l.length ∧ k = .int .i64 j ∧ n = .int .i64 (cnt x l j) ∧ m = .int .i64 (cnt x s j) ∧ St (fun _ => False) w wr [Sl true Event.cells 7 vs s, Sl true Event.cells 7 vl l]
set_option maxRecDepth 100000 in
set_option maxHeartbeats 16000000 in
theorem ksame_calls (v : Value) (l : List Event) (w : World) (F : Nat → Prop) (h : (Sl true Event.cells 7 v l).at_ w F) : Calls Try.prog 8 #[v] w fun r w' => r = .returned (.bool true) ∧ Below w.heap.size w w' := by
  have S : St (fun _ => False) w w [Sl true Event.cells 7 v l] := (St.init _ w).share rfl rfl h
  obtain ⟨ad, cp, rfl, _⟩ := (S.sl 0 rfl).elim fun _ h => h.form
  clear h
  by_cases g1 : (60 : Int) < l.length
  · go_enter Try.func8, Try.ntmps8
    go_wp2_with first
      | go_skip
      | ((with_reducible refine wpList_skip ?hw ?_); (case hw => with_unfolding_all rfl); simp only [Act.put, List.setIfInBounds_toArray, List.set_cons_succ, List.set_cons_zero])
      | (go_at_call 12; refine Calls.mono (awake_calls _) ?_; rintro e wz ⟨rfl, hE⟩; replace S := S.ext (Keep.of_below hE); clear hE)
      | ((with_reducible refine tot_done ?ht ?_); (case ht => kernel_rfl))
      | ((with_reducible apply wps_text S); (case hm => kernel_rfl); (case hB => decide +kernel); clear S; intro wz S)
      | ((with_reducible apply wps_loada (T := 23) (k := 4) S 0); (case hx => rfl); (case hi => rfl); (case hT => decide +kernel); (case hk => exact Nat.le_of_ble_eq_true rfl))
      | ((with_reducible apply wps_loada (T := 32) (k := 7) S 0); (case hx => rfl); (case hi => rfl); (case hT => decide +kernel); (case hk => exact Nat.le_of_ble_eq_true rfl))
    go_ret
    exact ⟨by simp, S.below⟩
  have hl : l.length ≤ 65536 := by omega
  have HI := Lib.hid (sortE_id (sortE_rise l))
  have HRi := Lib.hid (sortE_rise l)
  have hsl := sortE_len l
  have HC := Lib.hid (fun x => cnt_same x l)
  go_enter Try.func8, Try.ntmps8
  go_wp2_with first
    | go_skip
    | ((with_reducible refine wpList_skip ?hw ?_); (case hw => with_unfolding_all rfl); simp only [Act.put, List.setIfInBounds_toArray, List.set_cons_succ, List.set_cons_zero])
    | ((with_reducible refine tot_done ?ht ?_); (case ht => kernel_rfl))
    | ((with_reducible apply wps_text S); (case hm => kernel_rfl); (case hB => decide +kernel); clear S; intro wz S)
    | ((with_reducible apply wps_loada (T := 23) (k := 4) S 0); (case hx => rfl); (case hi => rfl); (case hT => decide +kernel); (case hk => exact Nat.le_of_ble_eq_true rfl))
    | ((with_reducible apply wps_loada (T := 32) (k := 7) S 0); (case hx => rfl); (case hi => rfl); (case hT => decide +kernel); (case hk => exact Nat.le_of_ble_eq_true rfl))
  refine Calls.mono (sort_calls _ l _ _ (S.get (i := 0) rfl).choose_spec hl) ?_
  rintro e wz ⟨ad2, c2, rfl, T⟩
  replace S := S.join T rfl
  simp only [List.cons_append, List.nil_append] at S
  clear T
  replace S := S.freeze true 0 ecells rfl
  simp only [List.set_cons_zero] at S
  generalize sortE l = s at *
  have hss : s.length ≤ 65536 := by omega
  have Hsl := Lib.hid hsl
  have HT : Hid (∀ wq F1 F2 v1 v2, (Sl true Event.cells 7 v1 s).at_ wq F1 → (Sl true Event.cells 7 v2 s).at_ wq F2 → Calls Try.prog 23 #[v1, v2] wq fun r w' => r = .returned (.bool true) ∧ Below wq.heap.size wq w') := fun wq F1 F2 v1 v2 h1 h2 => by
    have := evseq_calls v1 v2 s s wq F1 F2 h1 h2 hss hss
    rwa [decide_eq_true rfl] at this
  clear hsl
  go_wp2_with first
    | go_skip
    | ((with_reducible refine wpList_skip ?hw ?_); (case hw => with_unfolding_all rfl); simp only [Act.put, List.setIfInBounds_toArray, List.set_cons_succ, List.set_cons_zero])
    | ((with_reducible refine tot_done ?ht ?_); (case ht => kernel_rfl))
    | ((with_reducible apply wps_text S); (case hm => kernel_rfl); (case hB => decide +kernel); clear S; intro wz S)
    | ((with_reducible apply wps_loada (T := 23) (k := 4) S 0); (case hx => rfl); (case hi => rfl); (case hT => decide +kernel); (case hk => exact Nat.le_of_ble_eq_true rfl))
    | ((with_reducible apply wps_loada (T := 32) (k := 7) S 0); (case hx => rfl); (case hi => rfl); (case hT => decide +kernel); (case hk => exact Nat.le_of_ble_eq_true rfl))
  refine Calls.mono (sort_calls _ s _ _ (S.get (i := 0) rfl).choose_spec hss) ?_
  rintro e wz ⟨ad3, c3, rfl, T⟩
  rw [HI.out] at T
  replace S := S.join T rfl
  simp only [List.cons_append, List.nil_append] at S
  clear T
  replace S := S.freeze true 0 ecells rfl
  simp only [List.set_cons_zero] at S
  go_wp2_with first
    | go_skip
    | ((with_reducible refine wpList_skip ?hw ?_); (case hw => with_unfolding_all rfl); simp only [Act.put, List.setIfInBounds_toArray, List.set_cons_succ, List.set_cons_zero])
    | (go_at_call 23; refine Calls.mono (HT.out _ _ _ _ _ (S.get (i := 0) rfl).choose_spec (S.get (i := 1) rfl).choose_spec) ?_; rintro e wz ⟨rfl, hE⟩; replace S := S.ext (Keep.of_below hE); clear hE)
    | ((with_reducible refine tot_done ?ht ?_); (case ht => kernel_rfl))
    | ((with_reducible apply wps_text S); (case hm => kernel_rfl); (case hB => decide +kernel); clear S; intro wz S)
    | ((with_reducible apply wps_loada (T := 23) (k := 4) S 0); (case hx => rfl); (case hi => rfl); (case hT => decide +kernel); (case hk => exact Nat.le_of_ble_eq_true rfl))
    | ((with_reducible apply wps_loada (T := 32) (k := 7) S 0); (case hx => rfl); (case hi => rfl); (case hT => decide +kernel); (case hk => exact Nat.le_of_ble_eq_true rfl))
  replace S := S.pick [1, 2] rfl
  simp only [pick, nth] at S
  clear HT HI
  go_loopw [4] (fun i wr => SameRel (.slice ad l.length cp) (.slice ad2 l.length c2) l s w i wr) (fun i _ => l.length - (intOf i).toNat)
  case atStart => exact ⟨0, Nat.zero_le _, rfl, S⟩
  case round =>
    clear S
    obtain ⟨i, hi, rfl, S⟩ := hrel
    by_cases hlt : i < l.length
    · obtain ⟨x, hx⟩ : ∃ x, l[i]? = some x := ⟨_, List.getElem?_eq_getElem hlt⟩
      obtain ⟨R, o, rfl⟩ : ∃ R o, ad = some ⟨R, o, none⟩ := (S.sl 1 rfl).elim fun F h => h.head (by omega)
      obtain ⟨R2, o2, rfl⟩ : ∃ R o, ad2 = some ⟨R, o, none⟩ := (S.sl 0 rfl).elim fun F h => h.head (by have := Hsl.out; omega)
      have hlt2 : (i : Int) < l.length := by omega
      have HCx := Lib.hid (HC.out x)
      have Hx := Lib.hid hx
      clear hx
      go_wp2_with first
        | go_skip
        | ((with_reducible refine wpList_skip ?hw ?_); (case hw => with_unfolding_all rfl); simp only [Act.put, List.setIfInBounds_toArray, List.set_cons_succ, List.set_cons_zero])
        | ((with_reducible refine tot_done ?ht ?_); (case ht => kernel_rfl))
        | ((with_reducible apply wps_text S); (case hm => kernel_rfl); (case hB => decide +kernel); clear S; intro wz S)
        | ((with_reducible apply wps_loada (T := 23) (k := 4) S 0); (case hx => rfl); (case hi => rfl); (case hT => decide +kernel); (case hk => exact Nat.le_of_ble_eq_true rfl))
        | ((with_reducible apply wps_loada (T := 32) (k := 7) S 0); (case hx => rfl); (case hi => rfl); (case hT => decide +kernel); (case hk => exact Nat.le_of_ble_eq_true rfl))
      go_loopw [5, 6, 7] (fun n m k wr => SameRel2 (.slice (some ⟨R, o, none⟩) l.length cp) (.slice (some ⟨R2, o2, none⟩) l.length c2) l s x w n m k wr) (fun _ _ k _ => l.length - (intOf k).toNat)
      case atStart => exact ⟨0, Nat.zero_le _, rfl, rfl, rfl, S⟩
      case round =>
        clear S
        obtain ⟨k, hk, rfl, rfl, rfl, S⟩ := hrel
        by_cases hkl : k < l.length
        · obtain ⟨a, ha⟩ : ∃ a, l[k]? = some a := ⟨_, List.getElem?_eq_getElem hkl⟩
          obtain ⟨b, hb⟩ : ∃ b, s[k]? = some b := ⟨_, List.getElem?_eq_getElem (by have := Hsl.out; omega)⟩
          have hkl2 : (k : Int) < l.length := by omega
          have n1 := cnt_step (x := x) ha
          have n2 := cnt_step (x := x) hb
          have b1 := cnt_le x l k
          have b2 := cnt_le x s k
          have v1 := event_ceqs a x
          have v2 := event_ceqs b x
          generalize cnt x l k = p at *
          generalize cnt x s k = q at *
          generalize decide (a = x) = u at *
          generalize decide (b = x) = v at *
          have Ha := Lib.hid ha
          have Hb := Lib.hid hb
          have V1 := Lib.hid v1
          have V2 := Lib.hid v2
          clear ha hb v1 v2
          cases u <;> cases v
          all_goals
            simp only [Bool.false_eq_true, if_true, if_false, Nat.add_zero] at n1 n2
            have N1 := Lib.hid n1
            have N2 := Lib.hid n2
            clear n1 n2
            go_wp2_with first
              | go_skip
              | ((with_reducible refine wpList_skip ?hw ?_); (case hw => with_unfolding_all rfl); simp only [Act.put, List.setIfInBounds_toArray, List.set_cons_succ, List.set_cons_zero])
              | ((with_reducible apply wps_loada_el S 1 (hj := Ha.out) (q := 0) (vs := [.int .i64 a.key.at_, .int .i64 a.key.src, .int .i64 a.key.sent, .int .i64 a.key.no, .int .i64 a.dst, .int .i64 a.kind, .int .i64 a.data]) (m := 7)); (case hx => rfl); (case hT => decide +kernel); (case hi => rfl); (case hn => omega); (case hm => rfl); (case hv => rfl))
              | ((with_reducible apply wps_loada_el S 1 (hj := Ha.out) (q := 0) (vs := [.int .i64 a.key.at_, .int .i64 a.key.src, .int .i64 a.key.sent, .int .i64 a.key.no]) (m := 4)); (case hx => rfl); (case hT => decide +kernel); (case hi => rfl); (case hn => omega); (case hm => rfl); (case hv => rfl))
              | ((with_reducible apply wps_load_el S 1 (hj := Ha.out) (q := 0) (u := .int .i64 a.key.at_)); (case hx => rfl); (case hi => rfl); (case hn => omega); (case hT => decide +kernel); (case hu => rfl))
              | ((with_reducible apply wps_load_el S 1 (hj := Ha.out) (q := 1) (u := .int .i64 a.key.src)); (case hx => rfl); (case hi => rfl); (case hn => omega); (case hT => decide +kernel); (case hu => rfl))
              | ((with_reducible apply wps_load_el S 1 (hj := Ha.out) (q := 2) (u := .int .i64 a.key.sent)); (case hx => rfl); (case hi => rfl); (case hn => omega); (case hT => decide +kernel); (case hu => rfl))
              | ((with_reducible apply wps_load_el S 1 (hj := Ha.out) (q := 3) (u := .int .i64 a.key.no)); (case hx => rfl); (case hi => rfl); (case hn => omega); (case hT => decide +kernel); (case hu => rfl))
              | ((with_reducible apply wps_load_el S 1 (hj := Ha.out) (q := 4) (u := .int .i64 a.dst)); (case hx => rfl); (case hi => rfl); (case hn => omega); (case hT => decide +kernel); (case hu => rfl))
              | ((with_reducible apply wps_load_el S 1 (hj := Ha.out) (q := 5) (u := .int .i64 a.kind)); (case hx => rfl); (case hi => rfl); (case hn => omega); (case hT => decide +kernel); (case hu => rfl))
              | ((with_reducible apply wps_load_el S 1 (hj := Ha.out) (q := 6) (u := .int .i64 a.data)); (case hx => rfl); (case hi => rfl); (case hn => omega); (case hT => decide +kernel); (case hu => rfl))
              | ((with_reducible apply wps_loada_el S 1 (hj := Hx.out) (q := 0) (vs := [.int .i64 x.key.at_, .int .i64 x.key.src, .int .i64 x.key.sent, .int .i64 x.key.no, .int .i64 x.dst, .int .i64 x.kind, .int .i64 x.data]) (m := 7)); (case hx => rfl); (case hT => decide +kernel); (case hi => rfl); (case hn => omega); (case hm => rfl); (case hv => rfl))
              | ((with_reducible apply wps_loada_el S 1 (hj := Hx.out) (q := 0) (vs := [.int .i64 x.key.at_, .int .i64 x.key.src, .int .i64 x.key.sent, .int .i64 x.key.no]) (m := 4)); (case hx => rfl); (case hT => decide +kernel); (case hi => rfl); (case hn => omega); (case hm => rfl); (case hv => rfl))
              | ((with_reducible apply wps_load_el S 1 (hj := Hx.out) (q := 0) (u := .int .i64 x.key.at_)); (case hx => rfl); (case hi => rfl); (case hn => omega); (case hT => decide +kernel); (case hu => rfl))
              | ((with_reducible apply wps_load_el S 1 (hj := Hx.out) (q := 1) (u := .int .i64 x.key.src)); (case hx => rfl); (case hi => rfl); (case hn => omega); (case hT => decide +kernel); (case hu => rfl))
              | ((with_reducible apply wps_load_el S 1 (hj := Hx.out) (q := 2) (u := .int .i64 x.key.sent)); (case hx => rfl); (case hi => rfl); (case hn => omega); (case hT => decide +kernel); (case hu => rfl))
              | ((with_reducible apply wps_load_el S 1 (hj := Hx.out) (q := 3) (u := .int .i64 x.key.no)); (case hx => rfl); (case hi => rfl); (case hn => omega); (case hT => decide +kernel); (case hu => rfl))
              | ((with_reducible apply wps_load_el S 1 (hj := Hx.out) (q := 4) (u := .int .i64 x.dst)); (case hx => rfl); (case hi => rfl); (case hn => omega); (case hT => decide +kernel); (case hu => rfl))
              | ((with_reducible apply wps_load_el S 1 (hj := Hx.out) (q := 5) (u := .int .i64 x.kind)); (case hx => rfl); (case hi => rfl); (case hn => omega); (case hT => decide +kernel); (case hu => rfl))
              | ((with_reducible apply wps_load_el S 1 (hj := Hx.out) (q := 6) (u := .int .i64 x.data)); (case hx => rfl); (case hi => rfl); (case hn => omega); (case hT => decide +kernel); (case hu => rfl))
              | ((with_reducible apply wps_loada_el S 0 (hj := Hb.out) (q := 0) (vs := [.int .i64 b.key.at_, .int .i64 b.key.src, .int .i64 b.key.sent, .int .i64 b.key.no, .int .i64 b.dst, .int .i64 b.kind, .int .i64 b.data]) (m := 7)); (case hx => rfl); (case hT => decide +kernel); (case hi => rfl); (case hn => omega); (case hm => rfl); (case hv => rfl))
              | ((with_reducible apply wps_loada_el S 0 (hj := Hb.out) (q := 0) (vs := [.int .i64 b.key.at_, .int .i64 b.key.src, .int .i64 b.key.sent, .int .i64 b.key.no]) (m := 4)); (case hx => rfl); (case hT => decide +kernel); (case hi => rfl); (case hn => omega); (case hm => rfl); (case hv => rfl))
              | ((with_reducible apply wps_load_el S 0 (hj := Hb.out) (q := 0) (u := .int .i64 b.key.at_)); (case hx => rfl); (case hi => rfl); (case hn => omega); (case hT => decide +kernel); (case hu => rfl))
              | ((with_reducible apply wps_load_el S 0 (hj := Hb.out) (q := 1) (u := .int .i64 b.key.src)); (case hx => rfl); (case hi => rfl); (case hn => omega); (case hT => decide +kernel); (case hu => rfl))
              | ((with_reducible apply wps_load_el S 0 (hj := Hb.out) (q := 2) (u := .int .i64 b.key.sent)); (case hx => rfl); (case hi => rfl); (case hn => omega); (case hT => decide +kernel); (case hu => rfl))
              | ((with_reducible apply wps_load_el S 0 (hj := Hb.out) (q := 3) (u := .int .i64 b.key.no)); (case hx => rfl); (case hi => rfl); (case hn => omega); (case hT => decide +kernel); (case hu => rfl))
              | ((with_reducible apply wps_load_el S 0 (hj := Hb.out) (q := 4) (u := .int .i64 b.dst)); (case hx => rfl); (case hi => rfl); (case hn => omega); (case hT => decide +kernel); (case hu => rfl))
              | ((with_reducible apply wps_load_el S 0 (hj := Hb.out) (q := 5) (u := .int .i64 b.kind)); (case hx => rfl); (case hi => rfl); (case hn => omega); (case hT => decide +kernel); (case hu => rfl))
              | ((with_reducible apply wps_load_el S 0 (hj := Hb.out) (q := 6) (u := .int .i64 b.data)); (case hx => rfl); (case hi => rfl); (case hn => omega); (case hT => decide +kernel); (case hu => rfl))
              | ((with_reducible apply wpList_eql_agg (t := 32) (ks := [.int .i64, .int .i64, .int .i64, .int .i64, .int .i64, .int .i64, .int .i64]) (b := _)); (case hx => rfl); (case hy => rfl); (case hl => kernel_rfl); (case ha => kernel_rfl); (case hg => kernel_rfl); (case hfx => rfl); (case hfy => rfl); (case hb => exact V1.out))
              | ((with_reducible apply wpList_eql_agg (t := 32) (ks := [.int .i64, .int .i64, .int .i64, .int .i64, .int .i64, .int .i64, .int .i64]) (b := _)); (case hx => rfl); (case hy => rfl); (case hl => kernel_rfl); (case ha => kernel_rfl); (case hg => kernel_rfl); (case hfx => rfl); (case hfy => rfl); (case hb => exact V2.out))
              | ((with_reducible refine tot_done ?ht ?_); (case ht => kernel_rfl))
              | ((with_reducible apply wps_text S); (case hm => kernel_rfl); (case hB => decide +kernel); clear S; intro wz S)
              | ((with_reducible apply wps_loada (T := 23) (k := 4) S 0); (case hx => rfl); (case hi => rfl); (case hT => decide +kernel); (case hk => exact Nat.le_of_ble_eq_true rfl))
              | ((with_reducible apply wps_loada (T := 32) (k := 7) S 0); (case hx => rfl); (case hi => rfl); (case hT => decide +kernel); (case hk => exact Nat.le_of_ble_eq_true rfl))
            go_roundw
            case rel => exact ⟨k + 1, by omega, by go_num, by rw [N1.out] <;> go_num, by rw [N2.out] <;> go_num, S⟩
            case measure => first | (simp [intOf]; done) | (simp [intOf]; omega)
        · obtain rfl : k = l.length := by omega
          rw [HCx.out]
          have b2 := cnt_le x s l.length
          generalize cnt x s l.length = q at *
          by_cases h0 : i = 0
          · subst h0
            go_wp2_with first
              | go_skip
              | ((with_reducible refine wpList_skip ?hw ?_); (case hw => with_unfolding_all rfl); simp only [Act.put, List.setIfInBounds_toArray, List.set_cons_succ, List.set_cons_zero])
              | ((with_reducible refine tot_done ?ht ?_); (case ht => kernel_rfl))
              | ((with_reducible apply wps_text S); (case hm => kernel_rfl); (case hB => decide +kernel); clear S; intro wz S)
              | ((with_reducible apply wps_loada (T := 23) (k := 4) S 0); (case hx => rfl); (case hi => rfl); (case hT => decide +kernel); (case hk => exact Nat.le_of_ble_eq_true rfl))
              | ((with_reducible apply wps_loada (T := 32) (k := 7) S 0); (case hx => rfl); (case hi => rfl); (case hT => decide +kernel); (case hk => exact Nat.le_of_ble_eq_true rfl))
            go_roundw
            case rel => exact ⟨1, by omega, rfl, S⟩
            case measure => first | (simp [intOf]; done) | (simp [intOf]; omega)
          · obtain ⟨i, rfl⟩ : ∃ n, i = n + 1 := ⟨i - 1, by omega⟩
            obtain ⟨a, ha⟩ : ∃ a, s[i]? = some a := ⟨_, List.getElem?_eq_getElem (by have := Hsl.out; omega)⟩
            obtain ⟨b, hb⟩ : ∃ b, s[i + 1]? = some b := ⟨_, List.getElem?_eq_getElem (by have := Hsl.out; omega)⟩
            have hcmp : a.key.cmp b.key ≤ 0 := by
              obtain ⟨g1, e1⟩ := List.getElem?_eq_some_iff.1 ha
              obtain ⟨g2, e2⟩ := List.getElem?_eq_some_iff.1 hb
              have := List.pairwise_iff_getElem.1 HRi.out i (i + 1) g1 g2 (by omega)
              rw [e1, e2] at this
              unfold Key.cmp
              split
              · omega
              · rw [this]; simp
            have HP : Hid (∀ w, Calls Try.prog 11 #[.agg #[.int .i64 a.key.at_, .int .i64 a.key.src, .int .i64 a.key.sent, .int .i64 a.key.no], .agg #[.int .i64 b.key.at_, .int .i64 b.key.src, .int .i64 b.key.sent, .int .i64 b.key.no]] w fun e w' => e = .returned (.int .i64 (a.key.cmp b.key)) ∧ Below w.heap.size w w') := fun w => compare_calls _ _ _ _ _ _ _ _ w
            have hi3 : (i : Int) < l.length := by omega
            have hi4 : (i : Int) + 1 < l.length := by omega
            generalize a.key.cmp b.key = cv at *
            have hcv : ¬ 0 < cv := by omega
            have Ha := Lib.hid ha
            have Hb := Lib.hid hb
            clear ha hb
            go_wp2_with first
              | go_skip
              | ((with_reducible refine wpList_skip ?hw ?_); (case hw => with_unfolding_all rfl); simp only [Act.put, List.setIfInBounds_toArray, List.set_cons_succ, List.set_cons_zero])
              | ((with_reducible apply wps_loada_el S 0 (hj := Ha.out) (q := 0) (vs := [.int .i64 a.key.at_, .int .i64 a.key.src, .int .i64 a.key.sent, .int .i64 a.key.no, .int .i64 a.dst, .int .i64 a.kind, .int .i64 a.data]) (m := 7)); (case hx => rfl); (case hT => decide +kernel); (case hi => rfl); (case hn => omega); (case hm => rfl); (case hv => rfl))
              | ((with_reducible apply wps_loada_el S 0 (hj := Ha.out) (q := 0) (vs := [.int .i64 a.key.at_, .int .i64 a.key.src, .int .i64 a.key.sent, .int .i64 a.key.no]) (m := 4)); (case hx => rfl); (case hT => decide +kernel); (case hi => rfl); (case hn => omega); (case hm => rfl); (case hv => rfl))
              | ((with_reducible apply wps_load_el S 0 (hj := Ha.out) (q := 0) (u := .int .i64 a.key.at_)); (case hx => rfl); (case hi => rfl); (case hn => omega); (case hT => decide +kernel); (case hu => rfl))
              | ((with_reducible apply wps_load_el S 0 (hj := Ha.out) (q := 1) (u := .int .i64 a.key.src)); (case hx => rfl); (case hi => rfl); (case hn => omega); (case hT => decide +kernel); (case hu => rfl))
              | ((with_reducible apply wps_load_el S 0 (hj := Ha.out) (q := 2) (u := .int .i64 a.key.sent)); (case hx => rfl); (case hi => rfl); (case hn => omega); (case hT => decide +kernel); (case hu => rfl))
              | ((with_reducible apply wps_load_el S 0 (hj := Ha.out) (q := 3) (u := .int .i64 a.key.no)); (case hx => rfl); (case hi => rfl); (case hn => omega); (case hT => decide +kernel); (case hu => rfl))
              | ((with_reducible apply wps_load_el S 0 (hj := Ha.out) (q := 4) (u := .int .i64 a.dst)); (case hx => rfl); (case hi => rfl); (case hn => omega); (case hT => decide +kernel); (case hu => rfl))
              | ((with_reducible apply wps_load_el S 0 (hj := Ha.out) (q := 5) (u := .int .i64 a.kind)); (case hx => rfl); (case hi => rfl); (case hn => omega); (case hT => decide +kernel); (case hu => rfl))
              | ((with_reducible apply wps_load_el S 0 (hj := Ha.out) (q := 6) (u := .int .i64 a.data)); (case hx => rfl); (case hi => rfl); (case hn => omega); (case hT => decide +kernel); (case hu => rfl))
              | ((with_reducible apply wps_loada_el S 0 (hj := Hb.out) (q := 0) (vs := [.int .i64 b.key.at_, .int .i64 b.key.src, .int .i64 b.key.sent, .int .i64 b.key.no, .int .i64 b.dst, .int .i64 b.kind, .int .i64 b.data]) (m := 7)); (case hx => rfl); (case hT => decide +kernel); (case hi => rfl); (case hn => omega); (case hm => rfl); (case hv => rfl))
              | ((with_reducible apply wps_loada_el S 0 (hj := Hb.out) (q := 0) (vs := [.int .i64 b.key.at_, .int .i64 b.key.src, .int .i64 b.key.sent, .int .i64 b.key.no]) (m := 4)); (case hx => rfl); (case hT => decide +kernel); (case hi => rfl); (case hn => omega); (case hm => rfl); (case hv => rfl))
              | ((with_reducible apply wps_load_el S 0 (hj := Hb.out) (q := 0) (u := .int .i64 b.key.at_)); (case hx => rfl); (case hi => rfl); (case hn => omega); (case hT => decide +kernel); (case hu => rfl))
              | ((with_reducible apply wps_load_el S 0 (hj := Hb.out) (q := 1) (u := .int .i64 b.key.src)); (case hx => rfl); (case hi => rfl); (case hn => omega); (case hT => decide +kernel); (case hu => rfl))
              | ((with_reducible apply wps_load_el S 0 (hj := Hb.out) (q := 2) (u := .int .i64 b.key.sent)); (case hx => rfl); (case hi => rfl); (case hn => omega); (case hT => decide +kernel); (case hu => rfl))
              | ((with_reducible apply wps_load_el S 0 (hj := Hb.out) (q := 3) (u := .int .i64 b.key.no)); (case hx => rfl); (case hi => rfl); (case hn => omega); (case hT => decide +kernel); (case hu => rfl))
              | ((with_reducible apply wps_load_el S 0 (hj := Hb.out) (q := 4) (u := .int .i64 b.dst)); (case hx => rfl); (case hi => rfl); (case hn => omega); (case hT => decide +kernel); (case hu => rfl))
              | ((with_reducible apply wps_load_el S 0 (hj := Hb.out) (q := 5) (u := .int .i64 b.kind)); (case hx => rfl); (case hi => rfl); (case hn => omega); (case hT => decide +kernel); (case hu => rfl))
              | ((with_reducible apply wps_load_el S 0 (hj := Hb.out) (q := 6) (u := .int .i64 b.data)); (case hx => rfl); (case hi => rfl); (case hn => omega); (case hT => decide +kernel); (case hu => rfl))
              | (go_at_call 11; refine Calls.mono (HP.out _) ?_; rintro e wz ⟨rfl, hE⟩; replace S := S.ext (Keep.of_below hE); clear hE)
              | ((with_reducible refine tot_done ?ht ?_); (case ht => kernel_rfl))
              | ((with_reducible apply wps_text S); (case hm => kernel_rfl); (case hB => decide +kernel); clear S; intro wz S)
              | ((with_reducible apply wps_loada (T := 23) (k := 4) S 0); (case hx => rfl); (case hi => rfl); (case hT => decide +kernel); (case hk => exact Nat.le_of_ble_eq_true rfl))
              | ((with_reducible apply wps_loada (T := 32) (k := 7) S 0); (case hx => rfl); (case hi => rfl); (case hT => decide +kernel); (case hk => exact Nat.le_of_ble_eq_true rfl))
            go_roundw
            case rel => exact ⟨i + 1 + 1, by omega, by go_num, S⟩
            case measure => first | (simp [intOf]; done) | (simp [intOf]; omega)
    · obtain rfl : i = l.length := by omega
      go_wp2_with first
        | go_skip
        | ((with_reducible refine wpList_skip ?hw ?_); (case hw => with_unfolding_all rfl); simp only [Act.put, List.setIfInBounds_toArray, List.set_cons_succ, List.set_cons_zero])
        | (go_at_call 12; refine Calls.mono (awake_calls _) ?_; rintro e wz ⟨rfl, hE⟩; replace S := S.ext (Keep.of_below hE); clear hE)
        | ((with_reducible refine tot_done ?ht ?_); (case ht => kernel_rfl))
        | ((with_reducible apply wps_text S); (case hm => kernel_rfl); (case hB => decide +kernel); clear S; intro wz S)
        | ((with_reducible apply wps_loada (T := 23) (k := 4) S 0); (case hx => rfl); (case hi => rfl); (case hT => decide +kernel); (case hk => exact Nat.le_of_ble_eq_true rfl))
        | ((with_reducible apply wps_loada (T := 32) (k := 7) S 0); (case hx => rfl); (case hi => rfl); (case hT => decide +kernel); (case hk => exact Nat.le_of_ble_eq_true rfl))
      go_ret
      exact ⟨rfl, S.below⟩
end Go.Proofs.Ytejdfgonkfgnfaa

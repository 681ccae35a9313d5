import Derived.Test.YtejdfgonkfgnfaaL4
import Derived.Test.YtejdfgonkfgnfaaL2
import Derived.Deep.CutRange
/- The walk of the law KeysSettle. -/
namespace Go.Proofs.Ytejdfgonkfgnfaa
open Go Go.RowKit Reg Mem

theorem any_step {l : List Message} {p : Message → Bool} {j : Nat} {a : Message} (ha : l[j]? = some a) : (l.take (j + 1)).any p = ((l.take j).any p || p a) := by
  rw [List.take_add_one, ha]; simp
theorem any_all {l : List Message} {f : Message → Int} {x : Int} (h : IsLeast f l x) : (l.take l.length).any (fun m => f m == x) = true := by
  rw [List.take_of_length_le (Nat.le_refl _), List.any_eq_true]
  obtain ⟨m, hm, e⟩ := h.2
  exact ⟨m, hm, by simpa using e⟩
def SetlRel (v : Value) (l : List Message) (x y : Int) (w : World) (p q i : Value) (wr : World) : Prop :=
  ∃ (j : Nat), j ≤ l.length ∧ i = .int .i64 j ∧ p = .bool ((l.take j).any fun m => m.ev.key.at_ == x) ∧ q = .bool ((l.take j).any fun m => m.ev.key.sent == y) ∧ St (fun _ => False) w wr [Sl true Message.cells 8 v l]
set_option maxRecDepth 100000 in
set_option maxHeartbeats 16000000 in
theorem ksettle_calls (v : Value) (l : List Message) (w : World) (F : Nat → Prop) (h : (Sl true Message.cells 8 v l).at_ w F) : Calls Try.prog 5 #[v] w fun r w' => r = .returned (.bool true) ∧ Below w.heap.size w w' := by
  have S : St (fun _ => False) w w [Sl true Message.cells 8 v l] := (St.init _ w).share rfl rfl h
  obtain ⟨ad, cp, rfl, _⟩ := (S.sl 0 rfl).elim fun _ h => h.form
  clear h
  by_cases g1 : (60 : Int) < l.length
  · go_enter Try.func5, Try.ntmps5
    go_wp2_with first
      | go_skip
      | ((with_reducible refine wpList_skip ?hw ?_); (case hw => with_unfolding_all rfl); simp only [Act.put, List.setIfInBounds_toArray, List.set_cons_succ, List.set_cons_zero])
      | (go_at_call 12; refine Calls.mono (awake_calls _) ?_; rintro e wz ⟨rfl, hE⟩; replace S := S.ext (Keep.of_below hE); clear hE)
      | ((with_reducible refine tot_done ?ht ?_); (case ht => kernel_rfl))
      | ((with_reducible apply wps_text S); (case hm => kernel_rfl); (case hB => decide +kernel); clear S; intro wz S)
      | ((with_reducible apply wps_load S 0); (case hx => rfl); (case hi => rfl); (case hT => decide +kernel); (case hu => rfl))
      | ((with_reducible apply wps_loada (T := 32) (k := 7) S 0); (case hx => rfl); (case hi => rfl); (case hT => decide +kernel); (case hk => exact Nat.le_of_ble_eq_true rfl))
      | ((with_reducible apply wps_loada (T := 34) (k := 8) S 0); (case hx => rfl); (case hi => rfl); (case hT => decide +kernel); (case hk => exact Nat.le_of_ble_eq_true rfl))
    go_ret
    exact ⟨by simp, S.below⟩
  have hl : l.length ≤ 65536 := by omega
  go_enter Try.func5, Try.ntmps5
  go_wp2_with first
    | go_skip
    | ((with_reducible refine wpList_skip ?hw ?_); (case hw => with_unfolding_all rfl); simp only [Act.put, List.setIfInBounds_toArray, List.set_cons_succ, List.set_cons_zero])
    | ((with_reducible refine tot_done ?ht ?_); (case ht => kernel_rfl))
    | ((with_reducible apply wps_text S); (case hm => kernel_rfl); (case hB => decide +kernel); clear S; intro wz S)
    | ((with_reducible apply wps_load S 0); (case hx => rfl); (case hi => rfl); (case hT => decide +kernel); (case hu => rfl))
    | ((with_reducible apply wps_loada (T := 32) (k := 7) S 0); (case hx => rfl); (case hi => rfl); (case hT => decide +kernel); (case hk => exact Nat.le_of_ble_eq_true rfl))
    | ((with_reducible apply wps_loada (T := 34) (k := 8) S 0); (case hx => rfl); (case hi => rfl); (case hT => decide +kernel); (case hk => exact Nat.le_of_ble_eq_true rfl))
  refine Calls.mono (settle_calls _ l _ _ (S.get (i := 0) rfl).choose_spec hl) ?_
  intro e wz hP
  have main : ∃ (va : Value) (xs : List Message) (k : Int), e = .returned (.tuple #[va, .int .i64 k]) ∧ xs.length ≤ 65536 ∧ ((Bad l ∧ xs = [] ∧ k = 13) ∨ (¬ Bad l ∧ xs = left l ∧ k = 0)) ∧ St (fun _ => False) w wz [Sl true Message.cells 8 va xs, Sl true Message.cells 8 (.slice ad l.length cp) l] := by
    rcases hP with ⟨hb, rfl, hE⟩ | ⟨hb, ad2, c2, rfl, T⟩
    · exact ⟨_, [], 13, rfl, by simp, .inl ⟨hb, rfl, rfl⟩, by have := ((S.ext (Keep.of_below hE)).nil 34 Message.cells 8).freeze true 0 mcells rfl; simpa using this⟩
    · exact ⟨_, left l, 0, rfl, Nat.le_trans (leftTo_len _ _) hl, .inr ⟨hb, rfl, rfl⟩, by have := (S.join T rfl).freeze true 0 mcells rfl; simpa using this⟩
  clear S hP
  obtain ⟨va, xs, k, rfl, hxl, hxs, S⟩ := main
  have Hxs := Lib.hid hxs
  clear hxs
  go_wp2_with first
    | go_skip
    | ((with_reducible refine wpList_skip ?hw ?_); (case hw => with_unfolding_all rfl); simp only [Act.put, List.setIfInBounds_toArray, List.set_cons_succ, List.set_cons_zero])
    | ((with_reducible refine tot_done ?ht ?_); (case ht => kernel_rfl))
    | ((with_reducible apply wps_text S); (case hm => kernel_rfl); (case hB => decide +kernel); clear S; intro wz S)
    | ((with_reducible apply wps_load S 0); (case hx => rfl); (case hi => rfl); (case hT => decide +kernel); (case hu => rfl))
    | ((with_reducible apply wps_loada (T := 32) (k := 7) S 0); (case hx => rfl); (case hi => rfl); (case hT => decide +kernel); (case hk => exact Nat.le_of_ble_eq_true rfl))
    | ((with_reducible apply wps_loada (T := 34) (k := 8) S 0); (case hx => rfl); (case hi => rfl); (case hT => decide +kernel); (case hk => exact Nat.le_of_ble_eq_true rfl))
  refine Calls.mono (rsettle_calls _ l _ _ (S.get (i := 1) rfl).choose_spec hl) ?_
  intro e wz2 hP
  have main : ∃ (vb : Value), e = .returned (.tuple #[vb, .int .i64 k]) ∧ St (fun _ => False) w wz2 [Sl true Message.cells 8 vb xs, Sl true Message.cells 8 va xs, Sl true Message.cells 8 (.slice ad l.length cp) l] := by
    rcases hP with ⟨hb, rfl, hE⟩ | ⟨hb, ad2, c2, rfl, T⟩
    · rcases Hxs.out with ⟨_, rfl, rfl⟩ | ⟨h2, _⟩
      · exact ⟨_, rfl, by have := ((S.ext (Keep.of_below hE)).nil 34 Message.cells 8).freeze true 0 mcells rfl; simpa using this⟩
      · exact absurd hb h2
    · rcases Hxs.out with ⟨h2, _⟩ | ⟨_, rfl, rfl⟩
      · exact absurd h2 hb
      · exact ⟨_, rfl, by have := (S.join T rfl).freeze true 0 mcells rfl; simpa using this⟩
  clear S hP Hxs
  obtain ⟨vb, rfl, S⟩ := main
  have HT : ∀ wq F1 F2, (Sl true Message.cells 8 va xs).at_ wq F1 → (Sl true Message.cells 8 vb xs).at_ wq F2 → Calls Try.prog 15 #[va, vb] wq fun r w' => r = .returned (.bool true) ∧ Below wq.heap.size wq w' := fun wq F1 F2 h1 h2 => by
    have := msgseq_calls va vb xs xs wq F1 F2 h1 h2 hxl hxl
    rwa [decide_eq_true rfl] at this
  have HC := Lib.hid HT
  clear HT
  go_wp2_with first
    | go_skip
    | ((with_reducible refine wpList_skip ?hw ?_); (case hw => with_unfolding_all rfl); simp only [Act.put, List.setIfInBounds_toArray, List.set_cons_succ, List.set_cons_zero])
    | (go_at_call 15; refine Calls.mono (HC.out _ _ _ (S.get (i := 1) rfl).choose_spec (S.get (i := 0) rfl).choose_spec) ?_; rintro e wz ⟨rfl, hE⟩; replace S := S.ext (Keep.of_below hE); clear hE)
    | ((with_reducible refine tot_done ?ht ?_); (case ht => kernel_rfl))
    | ((with_reducible apply wps_text S); (case hm => kernel_rfl); (case hB => decide +kernel); clear S; intro wz S)
    | ((with_reducible apply wps_load S 0); (case hx => rfl); (case hi => rfl); (case hT => decide +kernel); (case hu => rfl))
    | ((with_reducible apply wps_loada (T := 32) (k := 7) S 0); (case hx => rfl); (case hi => rfl); (case hT => decide +kernel); (case hk => exact Nat.le_of_ble_eq_true rfl))
    | ((with_reducible apply wps_loada (T := 34) (k := 8) S 0); (case hx => rfl); (case hi => rfl); (case hT => decide +kernel); (case hk => exact Nat.le_of_ble_eq_true rfl))
  replace S := S.pick [2] rfl
  simp only [pick, nth] at S
  clear hxl HC
  by_cases h0 : l.length = 0
  · obtain rfl : l = [] := List.eq_nil_of_length_eq_zero h0
    simp only [List.length_nil] at S
    refine Calls.mono (least_none _ _ _ (S.get (i := 0) rfl).choose_spec) ?_
    rintro e wz ⟨rfl, hE⟩
    replace S := S.ext (Keep.of_below hE)
    clear hE
    go_wp2_with first
      | go_skip
      | ((with_reducible refine wpList_skip ?hw ?_); (case hw => with_unfolding_all rfl); simp only [Act.put, List.setIfInBounds_toArray, List.set_cons_succ, List.set_cons_zero])
      | (go_at_call 12; refine Calls.mono (awake_calls _) ?_; rintro e wz ⟨rfl, hE⟩; replace S := S.ext (Keep.of_below hE); clear hE)
      | ((with_reducible refine tot_done ?ht ?_); (case ht => kernel_rfl))
      | ((with_reducible apply wps_text S); (case hm => kernel_rfl); (case hB => decide +kernel); clear S; intro wz S)
      | ((with_reducible apply wps_load S 0); (case hx => rfl); (case hi => rfl); (case hT => decide +kernel); (case hu => rfl))
      | ((with_reducible apply wps_loada (T := 32) (k := 7) S 0); (case hx => rfl); (case hi => rfl); (case hT => decide +kernel); (case hk => exact Nat.le_of_ble_eq_true rfl))
      | ((with_reducible apply wps_loada (T := 34) (k := 8) S 0); (case hx => rfl); (case hi => rfl); (case hT => decide +kernel); (case hk => exact Nat.le_of_ble_eq_true rfl))
    go_ret
    exact ⟨by simp, S.below⟩
  · have hne : l ≠ [] := fun e => h0 (by simp [e])
    have h0b : ((l.length : Int) == 0) = false := beq_eq_false_iff_ne.2 (by omega)
    have hA := leastAt_is hne
    have hB := leastSent_is hne
    refine Calls.mono (least_some _ l _ _ (S.get (i := 0) rfl).choose_spec hne hl) ?_
    rintro e wz ⟨rfl, hE⟩
    replace S := S.ext (Keep.of_below hE)
    clear hE
    generalize leastAt l = x at *
    generalize leastSent l = y at *
    obtain ⟨a0, ha0⟩ : ∃ a, l[0]? = some a := ⟨_, List.getElem?_eq_getElem (by omega)⟩
    obtain ⟨R, o, rfl⟩ : ∃ R o, ad = some ⟨R, o, none⟩ := (S.sl 0 rfl).elim fun F h => h.head (by omega)
    have hl0 : (0 : Int) < l.length := by omega
    have HA := Lib.hid hA
    have HB := Lib.hid hB
    have Ha0 := Lib.hid ha0
    have Hne := Lib.hid hne
    clear hA hB ha0 hne
    go_wp2_with first
      | go_skip
      | ((with_reducible refine wpList_skip ?hw ?_); (case hw => with_unfolding_all rfl); simp only [Act.put, List.setIfInBounds_toArray, List.set_cons_succ, List.set_cons_zero])
      | ((with_reducible refine tot_done ?ht ?_); (case ht => kernel_rfl))
      | ((with_reducible apply wps_text S); (case hm => kernel_rfl); (case hB => decide +kernel); clear S; intro wz S)
      | ((with_reducible apply wps_load S 0); (case hx => rfl); (case hi => rfl); (case hT => decide +kernel); (case hu => rfl))
      | ((with_reducible apply wps_loada (T := 32) (k := 7) S 0); (case hx => rfl); (case hi => rfl); (case hT => decide +kernel); (case hk => exact Nat.le_of_ble_eq_true rfl))
      | ((with_reducible apply wps_loada (T := 34) (k := 8) S 0); (case hx => rfl); (case hi => rfl); (case hT => decide +kernel); (case hk => exact Nat.le_of_ble_eq_true rfl))
    go_loopw [10, 11, 12] (fun p q i wr => SetlRel (.slice (some ⟨R, o, none⟩) l.length cp) l x y w p q i wr) (fun _ _ i _ => l.length - (intOf i).toNat)
    case atStart => exact ⟨0, Nat.zero_le _, rfl, by simp, by simp, S⟩
    case round =>
      clear S
      obtain ⟨j, hj, rfl, rfl, rfl, S⟩ := hrel
      by_cases hlt : j < l.length
      · obtain ⟨a, ha⟩ : ∃ a, l[j]? = some a := ⟨_, List.getElem?_eq_getElem hlt⟩
        have hlt2 : (j : Int) < l.length := by omega
        have s1 := any_step (p := fun m => m.ev.key.at_ == x) ha
        have s2 := any_step (p := fun m => m.ev.key.sent == y) ha
        have d1 : decide (a.ev.key.at_ < x) = false := by have hz : x ≤ a.ev.key.at_ := HA.out.1 a (List.mem_of_getElem? ha); simp only [decide_eq_false_iff_not]; omega
        have d2 : decide (a.ev.key.sent < y) = false := by have hz : y ≤ a.ev.key.sent := HB.out.1 a (List.mem_of_getElem? ha); simp only [decide_eq_false_iff_not]; omega
        generalize ((l.take j).any fun m => m.ev.key.at_ == x) = p at *
        generalize ((l.take j).any fun m => m.ev.key.sent == y) = q at *
        have Ha := Lib.hid ha
        have S1 := Lib.hid s1
        have S2 := Lib.hid s2
        clear ha s1 s2
        go_upto_region 15 with fail
        go_cut [10] from 64 to 75 (fun v wx => v = .bool (p || (a.ev.key.at_ == x)) ∧ St (fun _ => False) w wx [Sl true Message.cells 8 (.slice (some ⟨R, o, none⟩) l.length cp) l])
        case first =>
          cases p
          all_goals
            go_wp2_with first
              | go_skip
              | ((with_reducible refine wpList_skip ?hw ?_); (case hw => with_unfolding_all rfl); simp only [Act.put, List.setIfInBounds_toArray, List.set_cons_succ, List.set_cons_zero])
              | ((with_reducible apply wps_loada_el S 0 (hj := Ha.out) (q := 0) (vs := [.int .i64 a.ev.key.at_, .int .i64 a.ev.key.src, .int .i64 a.ev.key.sent, .int .i64 a.ev.key.no, .int .i64 a.ev.dst, .int .i64 a.ev.kind, .int .i64 a.ev.data, .bool a.anti]) (m := 8)); (case hx => rfl); (case hT => decide +kernel); (case hi => rfl); (case hn => omega); (case hm => rfl); (case hv => rfl))
              | ((with_reducible apply wps_loada_el S 0 (hj := Ha.out) (q := 0) (vs := [.int .i64 a.ev.key.at_, .int .i64 a.ev.key.src, .int .i64 a.ev.key.sent, .int .i64 a.ev.key.no, .int .i64 a.ev.dst, .int .i64 a.ev.kind, .int .i64 a.ev.data]) (m := 7)); (case hx => rfl); (case hT => decide +kernel); (case hi => rfl); (case hn => omega); (case hm => rfl); (case hv => rfl))
              | ((with_reducible apply wps_loada_el S 0 (hj := Ha.out) (q := 0) (vs := [.int .i64 a.ev.key.at_, .int .i64 a.ev.key.src, .int .i64 a.ev.key.sent, .int .i64 a.ev.key.no]) (m := 4)); (case hx => rfl); (case hT => decide +kernel); (case hi => rfl); (case hn => omega); (case hm => rfl); (case hv => rfl))
              | ((with_reducible apply wps_load_el S 0 (hj := Ha.out) (q := 0) (u := .int .i64 a.ev.key.at_)); (case hx => rfl); (case hi => rfl); (case hn => omega); (case hT => decide +kernel); (case hu => rfl))
              | ((with_reducible apply wps_load_el S 0 (hj := Ha.out) (q := 1) (u := .int .i64 a.ev.key.src)); (case hx => rfl); (case hi => rfl); (case hn => omega); (case hT => decide +kernel); (case hu => rfl))
              | ((with_reducible apply wps_load_el S 0 (hj := Ha.out) (q := 2) (u := .int .i64 a.ev.key.sent)); (case hx => rfl); (case hi => rfl); (case hn => omega); (case hT => decide +kernel); (case hu => rfl))
              | ((with_reducible apply wps_load_el S 0 (hj := Ha.out) (q := 3) (u := .int .i64 a.ev.key.no)); (case hx => rfl); (case hi => rfl); (case hn => omega); (case hT => decide +kernel); (case hu => rfl))
              | ((with_reducible apply wps_load_el S 0 (hj := Ha.out) (q := 4) (u := .int .i64 a.ev.dst)); (case hx => rfl); (case hi => rfl); (case hn => omega); (case hT => decide +kernel); (case hu => rfl))
              | ((with_reducible apply wps_load_el S 0 (hj := Ha.out) (q := 5) (u := .int .i64 a.ev.kind)); (case hx => rfl); (case hi => rfl); (case hn => omega); (case hT => decide +kernel); (case hu => rfl))
              | ((with_reducible apply wps_load_el S 0 (hj := Ha.out) (q := 6) (u := .int .i64 a.ev.data)); (case hx => rfl); (case hi => rfl); (case hn => omega); (case hT => decide +kernel); (case hu => rfl))
              | ((with_reducible apply wps_load_el S 0 (hj := Ha.out) (q := 7) (u := .bool a.anti)); (case hx => rfl); (case hi => rfl); (case hn => omega); (case hT => decide +kernel); (case hu => rfl))
              | ((with_reducible refine tot_done ?ht ?_); (case ht => kernel_rfl))
              | ((with_reducible apply wps_text S); (case hm => kernel_rfl); (case hB => decide +kernel); clear S; intro wz S)
              | ((with_reducible apply wps_load S 0); (case hx => rfl); (case hi => rfl); (case hT => decide +kernel); (case hu => rfl))
              | ((with_reducible apply wps_loada (T := 32) (k := 7) S 0); (case hx => rfl); (case hi => rfl); (case hT => decide +kernel); (case hk => exact Nat.le_of_ble_eq_true rfl))
              | ((with_reducible apply wps_loada (T := 34) (k := 8) S 0); (case hx => rfl); (case hi => rfl); (case hT => decide +kernel); (case hk => exact Nat.le_of_ble_eq_true rfl))
            go_meet
            case rel => exact ⟨by simp, S⟩
        case rest =>
        clear S
        obtain ⟨rfl, S⟩ := hcut
        go_upto_region 16 with fail
        go_cut [11] from 76 to 87 (fun v wx => v = .bool (q || (a.ev.key.sent == y)) ∧ St (fun _ => False) w wx [Sl true Message.cells 8 (.slice (some ⟨R, o, none⟩) l.length cp) l])
        case first =>
          cases q
          all_goals
            go_wp2_with first
              | go_skip
              | ((with_reducible refine wpList_skip ?hw ?_); (case hw => with_unfolding_all rfl); simp only [Act.put, List.setIfInBounds_toArray, List.set_cons_succ, List.set_cons_zero])
              | ((with_reducible apply wps_loada_el S 0 (hj := Ha.out) (q := 0) (vs := [.int .i64 a.ev.key.at_, .int .i64 a.ev.key.src, .int .i64 a.ev.key.sent, .int .i64 a.ev.key.no, .int .i64 a.ev.dst, .int .i64 a.ev.kind, .int .i64 a.ev.data, .bool a.anti]) (m := 8)); (case hx => rfl); (case hT => decide +kernel); (case hi => rfl); (case hn => omega); (case hm => rfl); (case hv => rfl))
              | ((with_reducible apply wps_loada_el S 0 (hj := Ha.out) (q := 0) (vs := [.int .i64 a.ev.key.at_, .int .i64 a.ev.key.src, .int .i64 a.ev.key.sent, .int .i64 a.ev.key.no, .int .i64 a.ev.dst, .int .i64 a.ev.kind, .int .i64 a.ev.data]) (m := 7)); (case hx => rfl); (case hT => decide +kernel); (case hi => rfl); (case hn => omega); (case hm => rfl); (case hv => rfl))
              | ((with_reducible apply wps_loada_el S 0 (hj := Ha.out) (q := 0) (vs := [.int .i64 a.ev.key.at_, .int .i64 a.ev.key.src, .int .i64 a.ev.key.sent, .int .i64 a.ev.key.no]) (m := 4)); (case hx => rfl); (case hT => decide +kernel); (case hi => rfl); (case hn => omega); (case hm => rfl); (case hv => rfl))
              | ((with_reducible apply wps_load_el S 0 (hj := Ha.out) (q := 0) (u := .int .i64 a.ev.key.at_)); (case hx => rfl); (case hi => rfl); (case hn => omega); (case hT => decide +kernel); (case hu => rfl))
              | ((with_reducible apply wps_load_el S 0 (hj := Ha.out) (q := 1) (u := .int .i64 a.ev.key.src)); (case hx => rfl); (case hi => rfl); (case hn => omega); (case hT => decide +kernel); (case hu => rfl))
              | ((with_reducible apply wps_load_el S 0 (hj := Ha.out) (q := 2) (u := .int .i64 a.ev.key.sent)); (case hx => rfl); (case hi => rfl); (case hn => omega); (case hT => decide +kernel); (case hu => rfl))
              | ((with_reducible apply wps_load_el S 0 (hj := Ha.out) (q := 3) (u := .int .i64 a.ev.key.no)); (case hx => rfl); (case hi => rfl); (case hn => omega); (case hT => decide +kernel); (case hu => rfl))
              | ((with_reducible apply wps_load_el S 0 (hj := Ha.out) (q := 4) (u := .int .i64 a.ev.dst)); (case hx => rfl); (case hi => rfl); (case hn => omega); (case hT => decide +kernel); (case hu => rfl))
              | ((with_reducible apply wps_load_el S 0 (hj := Ha.out) (q := 5) (u := .int .i64 a.ev.kind)); (case hx => rfl); (case hi => rfl); (case hn => omega); (case hT => decide +kernel); (case hu => rfl))
              | ((with_reducible apply wps_load_el S 0 (hj := Ha.out) (q := 6) (u := .int .i64 a.ev.data)); (case hx => rfl); (case hi => rfl); (case hn => omega); (case hT => decide +kernel); (case hu => rfl))
              | ((with_reducible apply wps_load_el S 0 (hj := Ha.out) (q := 7) (u := .bool a.anti)); (case hx => rfl); (case hi => rfl); (case hn => omega); (case hT => decide +kernel); (case hu => rfl))
              | ((with_reducible refine tot_done ?ht ?_); (case ht => kernel_rfl))
              | ((with_reducible apply wps_text S); (case hm => kernel_rfl); (case hB => decide +kernel); clear S; intro wz S)
              | ((with_reducible apply wps_load S 0); (case hx => rfl); (case hi => rfl); (case hT => decide +kernel); (case hu => rfl))
              | ((with_reducible apply wps_loada (T := 32) (k := 7) S 0); (case hx => rfl); (case hi => rfl); (case hT => decide +kernel); (case hk => exact Nat.le_of_ble_eq_true rfl))
              | ((with_reducible apply wps_loada (T := 34) (k := 8) S 0); (case hx => rfl); (case hi => rfl); (case hT => decide +kernel); (case hk => exact Nat.le_of_ble_eq_true rfl))
            go_meet
            case rel => exact ⟨by simp, S⟩
        case rest =>
        clear S
        obtain ⟨rfl, S⟩ := hcut
        have e1 : (p || (a.ev.key.at_ == x)) = (l.take (j + 1)).any fun m => m.ev.key.at_ == x := S1.out.symm
        have e2 : (q || (a.ev.key.sent == y)) = (l.take (j + 1)).any fun m => m.ev.key.sent == y := S2.out.symm
        rw [e1, e2]
        clear e1 e2 S1 S2
        go_upto_region 17 with fail
        have hv := event_ceqs a0.ev a.ev
        have hm : meets a0 a = ((a0.anti != a.anti) && decide (a0.ev = a.ev)) := rfl
        cases hu : (a0.anti != a.anti) with
        | false =>
          have hu2 : (a0.anti == a.anti) = true := by simpa using hu
          have HC : Hid (∀ w, Calls Try.prog 14 #[.agg #[.int .i64 a0.ev.key.at_, .int .i64 a0.ev.key.src, .int .i64 a0.ev.key.sent, .int .i64 a0.ev.key.no, .int .i64 a0.ev.dst, .int .i64 a0.ev.kind, .int .i64 a0.ev.data, .bool a0.anti], .agg #[.int .i64 a.ev.key.at_, .int .i64 a.ev.key.src, .int .i64 a.ev.key.sent, .int .i64 a.ev.key.no, .int .i64 a.ev.dst, .int .i64 a.ev.kind, .int .i64 a.ev.data, .bool a.anti]] w fun r w' => r = .returned (.bool false) ∧ Below w.heap.size w w') := fun w => by
            have := meets_calls a0 a w; rwa [hm, hu] at this
          have HV : Hid (ceqs a0.ev.cells a.ev.cells = decide (a0.ev = a.ev)) := hv
          clear hm hv
          (refine wp_region_w (soft := [0, 1, 2, 3, 4, 5, 6, 7, 8, 9, 10, 11, 12, 13, 14, 15, 16, 17, 18, 19, 20, 21, 22, 23, 24, 25, 26, 27, 28, 29, 30, 31, 32, 33, 34, 35, 36, 37, 38, 39, 40, 41, 42, 43, 44, 45, 46, 47, 48, 49, 50, 51, 52]) S ?hm ?hB ?_); (case hm => kernel_rfl); (case hB => decide +kernel); clear S
          iterate 53
            (with_reducible apply softs_cons)
            (case hw =>
              (with_reducible apply soft_of); (case hi => rfl)
              intro T wz S
              simp only [List.cons_append, List.nil_append] at S
              go_wp2_with first
                | go_skip
                | ((with_reducible apply wps_loada_el S 0 (hj := Ha.out) (q := 0) (vs := [.int .i64 a.ev.key.at_, .int .i64 a.ev.key.src, .int .i64 a.ev.key.sent, .int .i64 a.ev.key.no, .int .i64 a.ev.dst, .int .i64 a.ev.kind, .int .i64 a.ev.data, .bool a.anti]) (m := 8)); (case hx => rfl); (case hT => decide +kernel); (case hi => rfl); (case hn => omega); (case hm => rfl); (case hv => rfl))
                | ((with_reducible apply wps_loada_el S 0 (hj := Ha.out) (q := 0) (vs := [.int .i64 a.ev.key.at_, .int .i64 a.ev.key.src, .int .i64 a.ev.key.sent, .int .i64 a.ev.key.no, .int .i64 a.ev.dst, .int .i64 a.ev.kind, .int .i64 a.ev.data]) (m := 7)); (case hx => rfl); (case hT => decide +kernel); (case hi => rfl); (case hn => omega); (case hm => rfl); (case hv => rfl))
                | ((with_reducible apply wps_loada_el S 0 (hj := Ha.out) (q := 0) (vs := [.int .i64 a.ev.key.at_, .int .i64 a.ev.key.src, .int .i64 a.ev.key.sent, .int .i64 a.ev.key.no]) (m := 4)); (case hx => rfl); (case hT => decide +kernel); (case hi => rfl); (case hn => omega); (case hm => rfl); (case hv => rfl))
                | ((with_reducible apply wps_load_el S 0 (hj := Ha.out) (q := 0) (u := .int .i64 a.ev.key.at_)); (case hx => rfl); (case hi => rfl); (case hn => omega); (case hT => decide +kernel); (case hu => rfl))
                | ((with_reducible apply wps_load_el S 0 (hj := Ha.out) (q := 1) (u := .int .i64 a.ev.key.src)); (case hx => rfl); (case hi => rfl); (case hn => omega); (case hT => decide +kernel); (case hu => rfl))
                | ((with_reducible apply wps_load_el S 0 (hj := Ha.out) (q := 2) (u := .int .i64 a.ev.key.sent)); (case hx => rfl); (case hi => rfl); (case hn => omega); (case hT => decide +kernel); (case hu => rfl))
                | ((with_reducible apply wps_load_el S 0 (hj := Ha.out) (q := 3) (u := .int .i64 a.ev.key.no)); (case hx => rfl); (case hi => rfl); (case hn => omega); (case hT => decide +kernel); (case hu => rfl))
                | ((with_reducible apply wps_load_el S 0 (hj := Ha.out) (q := 4) (u := .int .i64 a.ev.dst)); (case hx => rfl); (case hi => rfl); (case hn => omega); (case hT => decide +kernel); (case hu => rfl))
                | ((with_reducible apply wps_load_el S 0 (hj := Ha.out) (q := 5) (u := .int .i64 a.ev.kind)); (case hx => rfl); (case hi => rfl); (case hn => omega); (case hT => decide +kernel); (case hu => rfl))
                | ((with_reducible apply wps_load_el S 0 (hj := Ha.out) (q := 6) (u := .int .i64 a.ev.data)); (case hx => rfl); (case hi => rfl); (case hn => omega); (case hT => decide +kernel); (case hu => rfl))
                | ((with_reducible apply wps_load_el S 0 (hj := Ha.out) (q := 7) (u := .bool a.anti)); (case hx => rfl); (case hi => rfl); (case hn => omega); (case hT => decide +kernel); (case hu => rfl))
                | ((with_reducible apply wps_loada_el S 0 (hj := Ha0.out) (q := 0) (vs := [.int .i64 a0.ev.key.at_, .int .i64 a0.ev.key.src, .int .i64 a0.ev.key.sent, .int .i64 a0.ev.key.no, .int .i64 a0.ev.dst, .int .i64 a0.ev.kind, .int .i64 a0.ev.data, .bool a0.anti]) (m := 8)); (case hx => rfl); (case hT => decide +kernel); (case hi => rfl); (case hn => omega); (case hm => rfl); (case hv => rfl))
                | ((with_reducible apply wps_loada_el S 0 (hj := Ha0.out) (q := 0) (vs := [.int .i64 a0.ev.key.at_, .int .i64 a0.ev.key.src, .int .i64 a0.ev.key.sent, .int .i64 a0.ev.key.no, .int .i64 a0.ev.dst, .int .i64 a0.ev.kind, .int .i64 a0.ev.data]) (m := 7)); (case hx => rfl); (case hT => decide +kernel); (case hi => rfl); (case hn => omega); (case hm => rfl); (case hv => rfl))
                | ((with_reducible apply wps_loada_el S 0 (hj := Ha0.out) (q := 0) (vs := [.int .i64 a0.ev.key.at_, .int .i64 a0.ev.key.src, .int .i64 a0.ev.key.sent, .int .i64 a0.ev.key.no]) (m := 4)); (case hx => rfl); (case hT => decide +kernel); (case hi => rfl); (case hn => omega); (case hm => rfl); (case hv => rfl))
                | ((with_reducible apply wps_load_el S 0 (hj := Ha0.out) (q := 0) (u := .int .i64 a0.ev.key.at_)); (case hx => rfl); (case hi => rfl); (case hn => omega); (case hT => decide +kernel); (case hu => rfl))
                | ((with_reducible apply wps_load_el S 0 (hj := Ha0.out) (q := 1) (u := .int .i64 a0.ev.key.src)); (case hx => rfl); (case hi => rfl); (case hn => omega); (case hT => decide +kernel); (case hu => rfl))
                | ((with_reducible apply wps_load_el S 0 (hj := Ha0.out) (q := 2) (u := .int .i64 a0.ev.key.sent)); (case hx => rfl); (case hi => rfl); (case hn => omega); (case hT => decide +kernel); (case hu => rfl))
                | ((with_reducible apply wps_load_el S 0 (hj := Ha0.out) (q := 3) (u := .int .i64 a0.ev.key.no)); (case hx => rfl); (case hi => rfl); (case hn => omega); (case hT => decide +kernel); (case hu => rfl))
                | ((with_reducible apply wps_load_el S 0 (hj := Ha0.out) (q := 4) (u := .int .i64 a0.ev.dst)); (case hx => rfl); (case hi => rfl); (case hn => omega); (case hT => decide +kernel); (case hu => rfl))
                | ((with_reducible apply wps_load_el S 0 (hj := Ha0.out) (q := 5) (u := .int .i64 a0.ev.kind)); (case hx => rfl); (case hi => rfl); (case hn => omega); (case hT => decide +kernel); (case hu => rfl))
                | ((with_reducible apply wps_load_el S 0 (hj := Ha0.out) (q := 6) (u := .int .i64 a0.ev.data)); (case hx => rfl); (case hi => rfl); (case hn => omega); (case hT => decide +kernel); (case hu => rfl))
                | ((with_reducible apply wps_load_el S 0 (hj := Ha0.out) (q := 7) (u := .bool a0.anti)); (case hx => rfl); (case hi => rfl); (case hn => omega); (case hT => decide +kernel); (case hu => rfl))
                | (go_at_call 14; refine Calls.mono (HC.out _) ?_; rintro e wz ⟨rfl, hE⟩; replace S := S.ext (Keep.of_below hE); clear hE)
                | ((with_reducible apply wpList_eql_agg (t := 32) (ks := [.int .i64, .int .i64, .int .i64, .int .i64, .int .i64, .int .i64, .int .i64]) (b := _)); (case hx => rfl); (case hy => rfl); (case hl => kernel_rfl); (case ha => kernel_rfl); (case hg => kernel_rfl); (case hfx => rfl); (case hfy => rfl); (case hb => exact HV.out))
                | ((with_reducible refine tot_done ?ht ?_); (case ht => kernel_rfl))
                | ((with_reducible apply wps_load S 0); (case hx => rfl); (case hi => rfl); (case hT => decide +kernel); (case hu => rfl))
                | ((with_reducible apply wps_loada (T := 32) (k := 7) S 0); (case hx => rfl); (case hi => rfl); (case hT => decide +kernel); (case hk => exact Nat.le_of_ble_eq_true rfl))
                | ((with_reducible apply wps_loada (T := 34) (k := 8) S 0); (case hx => rfl); (case hi => rfl); (case hT => decide +kernel); (case hk => exact Nat.le_of_ble_eq_true rfl))
              exact ⟨rfl, S⟩)
            (case hs => exact ⟨_, rfl, by kernel_rfl⟩)
          refine softs_nil ?_
          (with_reducible apply W_done); (case hn => rfl); (case hr => decide +kernel)
          intro wz S
          simp only [List.append_nil] at S
          go_wp2_with first
            | go_skip
            | ((with_reducible refine wpList_skip ?hw ?_); (case hw => with_unfolding_all rfl); simp only [Act.put, List.setIfInBounds_toArray, List.set_cons_succ, List.set_cons_zero])
            | ((with_reducible refine tot_done ?ht ?_); (case ht => kernel_rfl))
            | ((with_reducible apply wps_text S); (case hm => kernel_rfl); (case hB => decide +kernel); clear S; intro wz S)
            | ((with_reducible apply wps_load S 0); (case hx => rfl); (case hi => rfl); (case hT => decide +kernel); (case hu => rfl))
            | ((with_reducible apply wps_loada (T := 32) (k := 7) S 0); (case hx => rfl); (case hi => rfl); (case hT => decide +kernel); (case hk => exact Nat.le_of_ble_eq_true rfl))
            | ((with_reducible apply wps_loada (T := 34) (k := 8) S 0); (case hx => rfl); (case hi => rfl); (case hT => decide +kernel); (case hk => exact Nat.le_of_ble_eq_true rfl))
          go_roundw
          case rel => exact ⟨j + 1, by omega, by go_num, rfl, rfl, S⟩
          case measure => first | (simp [intOf]; done) | (simp [intOf]; omega)
        | true =>
          have hu2 : (a0.anti == a.anti) = false := by simpa using hu
          cases hd : decide (a0.ev = a.ev) with
          | false =>
            have HC : Hid (∀ w, Calls Try.prog 14 #[.agg #[.int .i64 a0.ev.key.at_, .int .i64 a0.ev.key.src, .int .i64 a0.ev.key.sent, .int .i64 a0.ev.key.no, .int .i64 a0.ev.dst, .int .i64 a0.ev.kind, .int .i64 a0.ev.data, .bool a0.anti], .agg #[.int .i64 a.ev.key.at_, .int .i64 a.ev.key.src, .int .i64 a.ev.key.sent, .int .i64 a.ev.key.no, .int .i64 a.ev.dst, .int .i64 a.ev.kind, .int .i64 a.ev.data, .bool a.anti]] w fun r w' => r = .returned (.bool false) ∧ Below w.heap.size w w') := fun w => by
              have := meets_calls a0 a w; rwa [hm, hu, hd] at this
            have HV : Hid (ceqs a0.ev.cells a.ev.cells = false) := hv.trans hd
            clear hm hv hd
            (refine wp_region_w (soft := [0, 1, 2, 3, 4, 5, 6, 7, 8, 9, 10, 11, 12, 13, 14, 15, 16, 17, 18, 19, 20, 21, 22, 23, 24, 25, 26, 27, 28, 29, 30, 31, 32, 33, 34, 35, 36, 37, 38, 39, 40, 41, 42, 43, 44, 45, 46, 47, 48, 49, 50, 51, 52]) S ?hm ?hB ?_); (case hm => kernel_rfl); (case hB => decide +kernel); clear S
            iterate 53
              (with_reducible apply softs_cons)
              (case hw =>
                (with_reducible apply soft_of); (case hi => rfl)
                intro T wz S
                simp only [List.cons_append, List.nil_append] at S
                go_wp2_with first
                  | go_skip
                  | ((with_reducible apply wps_loada_el S 0 (hj := Ha.out) (q := 0) (vs := [.int .i64 a.ev.key.at_, .int .i64 a.ev.key.src, .int .i64 a.ev.key.sent, .int .i64 a.ev.key.no, .int .i64 a.ev.dst, .int .i64 a.ev.kind, .int .i64 a.ev.data, .bool a.anti]) (m := 8)); (case hx => rfl); (case hT => decide +kernel); (case hi => rfl); (case hn => omega); (case hm => rfl); (case hv => rfl))
                  | ((with_reducible apply wps_loada_el S 0 (hj := Ha.out) (q := 0) (vs := [.int .i64 a.ev.key.at_, .int .i64 a.ev.key.src, .int .i64 a.ev.key.sent, .int .i64 a.ev.key.no, .int .i64 a.ev.dst, .int .i64 a.ev.kind, .int .i64 a.ev.data]) (m := 7)); (case hx => rfl); (case hT => decide +kernel); (case hi => rfl); (case hn => omega); (case hm => rfl); (case hv => rfl))
                  | ((with_reducible apply wps_loada_el S 0 (hj := Ha.out) (q := 0) (vs := [.int .i64 a.ev.key.at_, .int .i64 a.ev.key.src, .int .i64 a.ev.key.sent, .int .i64 a.ev.key.no]) (m := 4)); (case hx => rfl); (case hT => decide +kernel); (case hi => rfl); (case hn => omega); (case hm => rfl); (case hv => rfl))
                  | ((with_reducible apply wps_load_el S 0 (hj := Ha.out) (q := 0) (u := .int .i64 a.ev.key.at_)); (case hx => rfl); (case hi => rfl); (case hn => omega); (case hT => decide +kernel); (case hu => rfl))
                  | ((with_reducible apply wps_load_el S 0 (hj := Ha.out) (q := 1) (u := .int .i64 a.ev.key.src)); (case hx => rfl); (case hi => rfl); (case hn => omega); (case hT => decide +kernel); (case hu => rfl))
                  | ((with_reducible apply wps_load_el S 0 (hj := Ha.out) (q := 2) (u := .int .i64 a.ev.key.sent)); (case hx => rfl); (case hi => rfl); (case hn => omega); (case hT => decide +kernel); (case hu => rfl))
                  | ((with_reducible apply wps_load_el S 0 (hj := Ha.out) (q := 3) (u := .int .i64 a.ev.key.no)); (case hx => rfl); (case hi => rfl); (case hn => omega); (case hT => decide +kernel); (case hu => rfl))
                  | ((with_reducible apply wps_load_el S 0 (hj := Ha.out) (q := 4) (u := .int .i64 a.ev.dst)); (case hx => rfl); (case hi => rfl); (case hn => omega); (case hT => decide +kernel); (case hu => rfl))
                  | ((with_reducible apply wps_load_el S 0 (hj := Ha.out) (q := 5) (u := .int .i64 a.ev.kind)); (case hx => rfl); (case hi => rfl); (case hn => omega); (case hT => decide +kernel); (case hu => rfl))
                  | ((with_reducible apply wps_load_el S 0 (hj := Ha.out) (q := 6) (u := .int .i64 a.ev.data)); (case hx => rfl); (case hi => rfl); (case hn => omega); (case hT => decide +kernel); (case hu => rfl))
                  | ((with_reducible apply wps_load_el S 0 (hj := Ha.out) (q := 7) (u := .bool a.anti)); (case hx => rfl); (case hi => rfl); (case hn => omega); (case hT => decide +kernel); (case hu => rfl))
                  | ((with_reducible apply wps_loada_el S 0 (hj := Ha0.out) (q := 0) (vs := [.int .i64 a0.ev.key.at_, .int .i64 a0.ev.key.src, .int .i64 a0.ev.key.sent, .int .i64 a0.ev.key.no, .int .i64 a0.ev.dst, .int .i64 a0.ev.kind, .int .i64 a0.ev.data, .bool a0.anti]) (m := 8)); (case hx => rfl); (case hT => decide +kernel); (case hi => rfl); (case hn => omega); (case hm => rfl); (case hv => rfl))
                  | ((with_reducible apply wps_loada_el S 0 (hj := Ha0.out) (q := 0) (vs := [.int .i64 a0.ev.key.at_, .int .i64 a0.ev.key.src, .int .i64 a0.ev.key.sent, .int .i64 a0.ev.key.no, .int .i64 a0.ev.dst, .int .i64 a0.ev.kind, .int .i64 a0.ev.data]) (m := 7)); (case hx => rfl); (case hT => decide +kernel); (case hi => rfl); (case hn => omega); (case hm => rfl); (case hv => rfl))
                  | ((with_reducible apply wps_loada_el S 0 (hj := Ha0.out) (q := 0) (vs := [.int .i64 a0.ev.key.at_, .int .i64 a0.ev.key.src, .int .i64 a0.ev.key.sent, .int .i64 a0.ev.key.no]) (m := 4)); (case hx => rfl); (case hT => decide +kernel); (case hi => rfl); (case hn => omega); (case hm => rfl); (case hv => rfl))
                  | ((with_reducible apply wps_load_el S 0 (hj := Ha0.out) (q := 0) (u := .int .i64 a0.ev.key.at_)); (case hx => rfl); (case hi => rfl); (case hn => omega); (case hT => decide +kernel); (case hu => rfl))
                  | ((with_reducible apply wps_load_el S 0 (hj := Ha0.out) (q := 1) (u := .int .i64 a0.ev.key.src)); (case hx => rfl); (case hi => rfl); (case hn => omega); (case hT => decide +kernel); (case hu => rfl))
                  | ((with_reducible apply wps_load_el S 0 (hj := Ha0.out) (q := 2) (u := .int .i64 a0.ev.key.sent)); (case hx => rfl); (case hi => rfl); (case hn => omega); (case hT => decide +kernel); (case hu => rfl))
                  | ((with_reducible apply wps_load_el S 0 (hj := Ha0.out) (q := 3) (u := .int .i64 a0.ev.key.no)); (case hx => rfl); (case hi => rfl); (case hn => omega); (case hT => decide +kernel); (case hu => rfl))
                  | ((with_reducible apply wps_load_el S 0 (hj := Ha0.out) (q := 4) (u := .int .i64 a0.ev.dst)); (case hx => rfl); (case hi => rfl); (case hn => omega); (case hT => decide +kernel); (case hu => rfl))
                  | ((with_reducible apply wps_load_el S 0 (hj := Ha0.out) (q := 5) (u := .int .i64 a0.ev.kind)); (case hx => rfl); (case hi => rfl); (case hn => omega); (case hT => decide +kernel); (case hu => rfl))
                  | ((with_reducible apply wps_load_el S 0 (hj := Ha0.out) (q := 6) (u := .int .i64 a0.ev.data)); (case hx => rfl); (case hi => rfl); (case hn => omega); (case hT => decide +kernel); (case hu => rfl))
                  | ((with_reducible apply wps_load_el S 0 (hj := Ha0.out) (q := 7) (u := .bool a0.anti)); (case hx => rfl); (case hi => rfl); (case hn => omega); (case hT => decide +kernel); (case hu => rfl))
                  | (go_at_call 14; refine Calls.mono (HC.out _) ?_; rintro e wz ⟨rfl, hE⟩; replace S := S.ext (Keep.of_below hE); clear hE)
                  | ((with_reducible apply wpList_eql_agg (t := 32) (ks := [.int .i64, .int .i64, .int .i64, .int .i64, .int .i64, .int .i64, .int .i64]) (b := _)); (case hx => rfl); (case hy => rfl); (case hl => kernel_rfl); (case ha => kernel_rfl); (case hg => kernel_rfl); (case hfx => rfl); (case hfy => rfl); (case hb => exact HV.out))
                  | ((with_reducible refine tot_done ?ht ?_); (case ht => kernel_rfl))
                  | ((with_reducible apply wps_load S 0); (case hx => rfl); (case hi => rfl); (case hT => decide +kernel); (case hu => rfl))
                  | ((with_reducible apply wps_loada (T := 32) (k := 7) S 0); (case hx => rfl); (case hi => rfl); (case hT => decide +kernel); (case hk => exact Nat.le_of_ble_eq_true rfl))
                  | ((with_reducible apply wps_loada (T := 34) (k := 8) S 0); (case hx => rfl); (case hi => rfl); (case hT => decide +kernel); (case hk => exact Nat.le_of_ble_eq_true rfl))
                exact ⟨rfl, S⟩)
              (case hs => exact ⟨_, rfl, by kernel_rfl⟩)
            refine softs_nil ?_
            (with_reducible apply W_done); (case hn => rfl); (case hr => decide +kernel)
            intro wz S
            simp only [List.append_nil] at S
            go_wp2_with first
              | go_skip
              | ((with_reducible refine wpList_skip ?hw ?_); (case hw => with_unfolding_all rfl); simp only [Act.put, List.setIfInBounds_toArray, List.set_cons_succ, List.set_cons_zero])
              | ((with_reducible refine tot_done ?ht ?_); (case ht => kernel_rfl))
              | ((with_reducible apply wps_text S); (case hm => kernel_rfl); (case hB => decide +kernel); clear S; intro wz S)
              | ((with_reducible apply wps_load S 0); (case hx => rfl); (case hi => rfl); (case hT => decide +kernel); (case hu => rfl))
              | ((with_reducible apply wps_loada (T := 32) (k := 7) S 0); (case hx => rfl); (case hi => rfl); (case hT => decide +kernel); (case hk => exact Nat.le_of_ble_eq_true rfl))
              | ((with_reducible apply wps_loada (T := 34) (k := 8) S 0); (case hx => rfl); (case hi => rfl); (case hT => decide +kernel); (case hk => exact Nat.le_of_ble_eq_true rfl))
            go_roundw
            case rel => exact ⟨j + 1, by omega, by go_num, rfl, rfl, S⟩
            case measure => first | (simp [intOf]; done) | (simp [intOf]; omega)
          | true =>
            have HC : Hid (∀ w, Calls Try.prog 14 #[.agg #[.int .i64 a0.ev.key.at_, .int .i64 a0.ev.key.src, .int .i64 a0.ev.key.sent, .int .i64 a0.ev.key.no, .int .i64 a0.ev.dst, .int .i64 a0.ev.kind, .int .i64 a0.ev.data, .bool a0.anti], .agg #[.int .i64 a.ev.key.at_, .int .i64 a.ev.key.src, .int .i64 a.ev.key.sent, .int .i64 a.ev.key.no, .int .i64 a.ev.dst, .int .i64 a.ev.kind, .int .i64 a.ev.data, .bool a.anti]] w fun r w' => r = .returned (.bool true) ∧ Below w.heap.size w w') := fun w => by
              have := meets_calls a0 a w; rwa [hm, hu, hd] at this
            have HV : Hid (ceqs a0.ev.cells a.ev.cells = true) := hv.trans hd
            clear hm hv hd
            (refine wp_region_w (soft := [0, 1, 2, 3, 4, 5, 6, 7, 8, 9, 10, 11, 12, 13, 14, 15, 16, 17, 18, 19, 20, 21, 22, 23, 24, 25, 26, 27, 28, 29, 30, 31, 32, 33, 34, 35, 36, 37, 38, 39, 40, 41, 42, 43, 44, 45, 46, 47, 48, 49, 50, 51, 52]) S ?hm ?hB ?_); (case hm => kernel_rfl); (case hB => decide +kernel); clear S
            iterate 53
              (with_reducible apply softs_cons)
              (case hw =>
                (with_reducible apply soft_of); (case hi => rfl)
                intro T wz S
                simp only [List.cons_append, List.nil_append] at S
                go_wp2_with first
                  | go_skip
                  | ((with_reducible apply wps_loada_el S 0 (hj := Ha.out) (q := 0) (vs := [.int .i64 a.ev.key.at_, .int .i64 a.ev.key.src, .int .i64 a.ev.key.sent, .int .i64 a.ev.key.no, .int .i64 a.ev.dst, .int .i64 a.ev.kind, .int .i64 a.ev.data, .bool a.anti]) (m := 8)); (case hx => rfl); (case hT => decide +kernel); (case hi => rfl); (case hn => omega); (case hm => rfl); (case hv => rfl))
                  | ((with_reducible apply wps_loada_el S 0 (hj := Ha.out) (q := 0) (vs := [.int .i64 a.ev.key.at_, .int .i64 a.ev.key.src, .int .i64 a.ev.key.sent, .int .i64 a.ev.key.no, .int .i64 a.ev.dst, .int .i64 a.ev.kind, .int .i64 a.ev.data]) (m := 7)); (case hx => rfl); (case hT => decide +kernel); (case hi => rfl); (case hn => omega); (case hm => rfl); (case hv => rfl))
                  | ((with_reducible apply wps_loada_el S 0 (hj := Ha.out) (q := 0) (vs := [.int .i64 a.ev.key.at_, .int .i64 a.ev.key.src, .int .i64 a.ev.key.sent, .int .i64 a.ev.key.no]) (m := 4)); (case hx => rfl); (case hT => decide +kernel); (case hi => rfl); (case hn => omega); (case hm => rfl); (case hv => rfl))
                  | ((with_reducible apply wps_load_el S 0 (hj := Ha.out) (q := 0) (u := .int .i64 a.ev.key.at_)); (case hx => rfl); (case hi => rfl); (case hn => omega); (case hT => decide +kernel); (case hu => rfl))
                  | ((with_reducible apply wps_load_el S 0 (hj := Ha.out) (q := 1) (u := .int .i64 a.ev.key.src)); (case hx => rfl); (case hi => rfl); (case hn => omega); (case hT => decide +kernel); (case hu => rfl))
                  | ((with_reducible apply wps_load_el S 0 (hj := Ha.out) (q := 2) (u := .int .i64 a.ev.key.sent)); (case hx => rfl); (case hi => rfl); (case hn => omega); (case hT => decide +kernel); (case hu => rfl))
                  | ((with_reducible apply wps_load_el S 0 (hj := Ha.out) (q := 3) (u := .int .i64 a.ev.key.no)); (case hx => rfl); (case hi => rfl); (case hn => omega); (case hT => decide +kernel); (case hu => rfl))
                  | ((with_reducible apply wps_load_el S 0 (hj := Ha.out) (q := 4) (u := .int .i64 a.ev.dst)); (case hx => rfl); (case hi => rfl); (case hn => omega); (case hT => decide +kernel); (case hu => rfl))
                  | ((with_reducible apply wps_load_el S 0 (hj := Ha.out) (q := 5) (u := .int .i64 a.ev.kind)); (case hx => rfl); (case hi => rfl); (case hn => omega); (case hT => decide +kernel); (case hu => rfl))
                  | ((with_reducible apply wps_load_el S 0 (hj := Ha.out) (q := 6) (u := .int .i64 a.ev.data)); (case hx => rfl); (case hi => rfl); (case hn => omega); (case hT => decide +kernel); (case hu => rfl))
                  | ((with_reducible apply wps_load_el S 0 (hj := Ha.out) (q := 7) (u := .bool a.anti)); (case hx => rfl); (case hi => rfl); (case hn => omega); (case hT => decide +kernel); (case hu => rfl))
                  | ((with_reducible apply wps_loada_el S 0 (hj := Ha0.out) (q := 0) (vs := [.int .i64 a0.ev.key.at_, .int .i64 a0.ev.key.src, .int .i64 a0.ev.key.sent, .int .i64 a0.ev.key.no, .int .i64 a0.ev.dst, .int .i64 a0.ev.kind, .int .i64 a0.ev.data, .bool a0.anti]) (m := 8)); (case hx => rfl); (case hT => decide +kernel); (case hi => rfl); (case hn => omega); (case hm => rfl); (case hv => rfl))
                  | ((with_reducible apply wps_loada_el S 0 (hj := Ha0.out) (q := 0) (vs := [.int .i64 a0.ev.key.at_, .int .i64 a0.ev.key.src, .int .i64 a0.ev.key.sent, .int .i64 a0.ev.key.no, .int .i64 a0.ev.dst, .int .i64 a0.ev.kind, .int .i64 a0.ev.data]) (m := 7)); (case hx => rfl); (case hT => decide +kernel); (case hi => rfl); (case hn => omega); (case hm => rfl); (case hv => rfl))
                  | ((with_reducible apply wps_loada_el S 0 (hj := Ha0.out) (q := 0) (vs := [.int .i64 a0.ev.key.at_, .int .i64 a0.ev.key.src, .int .i64 a0.ev.key.sent, .int .i64 a0.ev.key.no]) (m := 4)); (case hx => rfl); (case hT => decide +kernel); (case hi => rfl); (case hn => omega); (case hm => rfl); (case hv => rfl))
                  | ((with_reducible apply wps_load_el S 0 (hj := Ha0.out) (q := 0) (u := .int .i64 a0.ev.key.at_)); (case hx => rfl); (case hi => rfl); (case hn => omega); (case hT => decide +kernel); (case hu => rfl))
                  | ((with_reducible apply wps_load_el S 0 (hj := Ha0.out) (q := 1) (u := .int .i64 a0.ev.key.src)); (case hx => rfl); (case hi => rfl); (case hn => omega); (case hT => decide +kernel); (case hu => rfl))
                  | ((with_reducible apply wps_load_el S 0 (hj := Ha0.out) (q := 2) (u := .int .i64 a0.ev.key.sent)); (case hx => rfl); (case hi => rfl); (case hn => omega); (case hT => decide +kernel); (case hu => rfl))
                  | ((with_reducible apply wps_load_el S 0 (hj := Ha0.out) (q := 3) (u := .int .i64 a0.ev.key.no)); (case hx => rfl); (case hi => rfl); (case hn => omega); (case hT => decide +kernel); (case hu => rfl))
                  | ((with_reducible apply wps_load_el S 0 (hj := Ha0.out) (q := 4) (u := .int .i64 a0.ev.dst)); (case hx => rfl); (case hi => rfl); (case hn => omega); (case hT => decide +kernel); (case hu => rfl))
                  | ((with_reducible apply wps_load_el S 0 (hj := Ha0.out) (q := 5) (u := .int .i64 a0.ev.kind)); (case hx => rfl); (case hi => rfl); (case hn => omega); (case hT => decide +kernel); (case hu => rfl))
                  | ((with_reducible apply wps_load_el S 0 (hj := Ha0.out) (q := 6) (u := .int .i64 a0.ev.data)); (case hx => rfl); (case hi => rfl); (case hn => omega); (case hT => decide +kernel); (case hu => rfl))
                  | ((with_reducible apply wps_load_el S 0 (hj := Ha0.out) (q := 7) (u := .bool a0.anti)); (case hx => rfl); (case hi => rfl); (case hn => omega); (case hT => decide +kernel); (case hu => rfl))
                  | (go_at_call 14; refine Calls.mono (HC.out _) ?_; rintro e wz ⟨rfl, hE⟩; replace S := S.ext (Keep.of_below hE); clear hE)
                  | ((with_reducible apply wpList_eql_agg (t := 32) (ks := [.int .i64, .int .i64, .int .i64, .int .i64, .int .i64, .int .i64, .int .i64]) (b := _)); (case hx => rfl); (case hy => rfl); (case hl => kernel_rfl); (case ha => kernel_rfl); (case hg => kernel_rfl); (case hfx => rfl); (case hfy => rfl); (case hb => exact HV.out))
                  | ((with_reducible refine tot_done ?ht ?_); (case ht => kernel_rfl))
                  | ((with_reducible apply wps_load S 0); (case hx => rfl); (case hi => rfl); (case hT => decide +kernel); (case hu => rfl))
                  | ((with_reducible apply wps_loada (T := 32) (k := 7) S 0); (case hx => rfl); (case hi => rfl); (case hT => decide +kernel); (case hk => exact Nat.le_of_ble_eq_true rfl))
                  | ((with_reducible apply wps_loada (T := 34) (k := 8) S 0); (case hx => rfl); (case hi => rfl); (case hT => decide +kernel); (case hk => exact Nat.le_of_ble_eq_true rfl))
                exact ⟨rfl, S⟩)
              (case hs => exact ⟨_, rfl, by kernel_rfl⟩)
            refine softs_nil ?_
            (with_reducible apply W_done); (case hn => rfl); (case hr => decide +kernel)
            intro wz S
            simp only [List.append_nil] at S
            go_wp2_with first
              | go_skip
              | ((with_reducible refine wpList_skip ?hw ?_); (case hw => with_unfolding_all rfl); simp only [Act.put, List.setIfInBounds_toArray, List.set_cons_succ, List.set_cons_zero])
              | ((with_reducible refine tot_done ?ht ?_); (case ht => kernel_rfl))
              | ((with_reducible apply wps_text S); (case hm => kernel_rfl); (case hB => decide +kernel); clear S; intro wz S)
              | ((with_reducible apply wps_load S 0); (case hx => rfl); (case hi => rfl); (case hT => decide +kernel); (case hu => rfl))
              | ((with_reducible apply wps_loada (T := 32) (k := 7) S 0); (case hx => rfl); (case hi => rfl); (case hT => decide +kernel); (case hk => exact Nat.le_of_ble_eq_true rfl))
              | ((with_reducible apply wps_loada (T := 34) (k := 8) S 0); (case hx => rfl); (case hi => rfl); (case hT => decide +kernel); (case hk => exact Nat.le_of_ble_eq_true rfl))
            go_roundw
            case rel => exact ⟨j + 1, by omega, by go_num, rfl, rfl, S⟩
            case measure => first | (simp [intOf]; done) | (simp [intOf]; omega)
      · obtain rfl : j = l.length := by omega
        have e1 := any_all HA.out
        have e2 := any_all HB.out
        rw [e1, e2]
        clear e1 e2
        go_wp2_with first
          | go_skip
          | ((with_reducible refine wpList_skip ?hw ?_); (case hw => with_unfolding_all rfl); simp only [Act.put, List.setIfInBounds_toArray, List.set_cons_succ, List.set_cons_zero])
          | (go_at_call 12; refine Calls.mono (awake_calls _) ?_; rintro e wz ⟨rfl, hE⟩; replace S := S.ext (Keep.of_below hE); clear hE)
          | ((with_reducible refine tot_done ?ht ?_); (case ht => kernel_rfl))
          | ((with_reducible apply wps_text S); (case hm => kernel_rfl); (case hB => decide +kernel); clear S; intro wz S)
          | ((with_reducible apply wps_load S 0); (case hx => rfl); (case hi => rfl); (case hT => decide +kernel); (case hu => rfl))
          | ((with_reducible apply wps_loada (T := 32) (k := 7) S 0); (case hx => rfl); (case hi => rfl); (case hT => decide +kernel); (case hk => exact Nat.le_of_ble_eq_true rfl))
          | ((with_reducible apply wps_loada (T := 34) (k := 8) S 0); (case hx => rfl); (case hi => rfl); (case hT => decide +kernel); (case hk => exact Nat.le_of_ble_eq_true rfl))
        go_ret
        exact ⟨by simp, S.below⟩
end Go.Proofs.Ytejdfgonkfgnfaa

import Derived.Test.YtcbdacmdmaoegaaKsb
/- The walk of the law KeysBatches. -/
namespace Go.Proofs.Ytcbdacmdmaoegaa
open Go Go.RowKit Reg Mem

theorem filter_push {α : Type} {p : α → Bool} {l : List α} {j : Nat} {x : α} (h : l[j]? = some x) : (l.take (j + 1)).filter p = (l.take j).filter p ++ (if p x = true then [x] else []) := by
  rw [List.take_add_one, h, Option.toList_some, List.filter_append]
  cases hp : p x <;> simp [hp]
def KbPhi (gs : List (List Event)) (all : List Event) (va : Value) (b4 b5 b7 : Nat) (k : Nat) (L : List Asn) : Prop :=
  L = [Blk false b7 #[.int .i64 (aheadN gs k : Nat)] 3, Blk false b5 #[va] 22, Sl true Event.cells 7 va all, Blk false b4 #[.bool false] 4]
def KbRel (w : World) (M : List Asn) (all : List Event) (a0 : Int) (v i : Value) (wr : World) : Prop :=
  ∃ (j : Nat) (wn : List Event), j ≤ all.length ∧ i = .int .i64 j ∧ Hid (wn = (all.take j).filter (fun y => y.key.at_ == a0)) ∧ wn.length ≤ j ∧ St (fun _ => False) w wr (Mem.Own 30 Event.cells 7 v wn :: M)
set_option maxRecDepth 100000 in
set_option maxHeartbeats 16000000 in
theorem keysBatches_calls (v1 v2 : Value) (l m : List Event) (w : World) (F1 F2 : Nat → Prop) (h1 : (Sl true Event.cells 7 v1 l).at_ w F1) (h2 : (Sl true Event.cells 7 v2 m).at_ w F2) : Calls Try.prog 3 #[v1, v2] w fun r w' => r = .returned (.bool true) ∧ Below w.heap.size w w' := by
  have S : St (fun _ => False) w w [Sl true Event.cells 7 v1 l, Sl true Event.cells 7 v2 m] := ((St.init _ w).share (A := Sl true Event.cells 7 v2 m) rfl rfl h2).share rfl rfl h1
  obtain ⟨ad, cp, rfl, _⟩ := (S.sl 0 rfl).elim fun _ h => h.form
  obtain ⟨ad2, cp2, rfl, _⟩ := (S.sl 1 rfl).elim fun _ h => h.form
  clear h1 h2
  refine calls_marks Try.func3 rfl ?_
  simp only [Try.ntmps3, List.size_toArray, List.length_cons, List.length_nil, Nat.reduceAdd, Nat.reduceSub, Array.replicate_succ, Array.replicate_zero, List.push_toArray, List.append_toArray, List.nil_append, List.cons_append]
  have HA : (l.length ≤ 30 ∧ m.length ≤ 30) ∨ decide ((30 : Int) < l.length) = true ∨ (decide ((30 : Int) < l.length) = false ∧ decide ((30 : Int) < m.length) = true) := by
    by_cases g1 : (30 : Int) < l.length
    · exact .inr (.inl (decide_eq_true g1))
    · by_cases g2 : (30 : Int) < m.length
      · exact .inr (.inr ⟨decide_eq_false g1, decide_eq_true g2⟩)
      · exact .inl ⟨by omega, by omega⟩
  rcases HA with ⟨g1, g2⟩ | g1 | ⟨g1, g2⟩
  rotate_left 1
  · go_wp2_with first
      | go_skip
      | ((with_reducible refine wpList_skip ?hw ?_); (case hw => with_unfolding_all rfl); simp only [Act.put, List.setIfInBounds_toArray, List.set_cons_succ, List.set_cons_zero])
      | ((with_reducible apply wps_alloc1 (E := 4) S); (case hz => exact Try.zeroValue4); (case h1 => rfl); clear S; intro b4 wz S)
      | (go_at_call 10; refine Calls.mono (awake_calls _) ?_; rintro e wz ⟨rfl, hE⟩; replace S := S.ext (Keep.of_below hE); clear hE)
      | ((with_reducible apply wps_store S 0); (case hx => rfl); (case hy => rfl); (case hi => rfl); (case hT => decide +kernel); (case h1 => rfl); (case hn => exact Nat.le_of_ble_eq_true rfl); clear S; intro wz S; simp only [List.set_cons_zero, List.setIfInBounds_toArray] at S)
      | ((with_reducible refine tot_done ?ht ?_); (case ht => kernel_rfl))
      | ((with_reducible apply wps_load S 0); (case hx => rfl); (case hi => rfl); (case hT => decide +kernel); (case hu => rfl))
      | ((with_reducible apply wps_loada (T := 30) (k := 7) S 0); (case hx => rfl); (case hi => rfl); (case hT => decide +kernel); (case hk => exact Nat.le_of_ble_eq_true rfl))
    exact leaves_ret rfl (results1 rfl (S.res1 0 rfl rfl (by kernel_rfl))) ⟨rfl, S.below⟩
  · go_wp2_with first
      | go_skip
      | ((with_reducible refine wpList_skip ?hw ?_); (case hw => with_unfolding_all rfl); simp only [Act.put, List.setIfInBounds_toArray, List.set_cons_succ, List.set_cons_zero])
      | ((with_reducible apply wps_alloc1 (E := 4) S); (case hz => exact Try.zeroValue4); (case h1 => rfl); clear S; intro b4 wz S)
      | (go_at_call 10; refine Calls.mono (awake_calls _) ?_; rintro e wz ⟨rfl, hE⟩; replace S := S.ext (Keep.of_below hE); clear hE)
      | ((with_reducible apply wps_store S 0); (case hx => rfl); (case hy => rfl); (case hi => rfl); (case hT => decide +kernel); (case h1 => rfl); (case hn => exact Nat.le_of_ble_eq_true rfl); clear S; intro wz S; simp only [List.set_cons_zero, List.setIfInBounds_toArray] at S)
      | ((with_reducible refine tot_done ?ht ?_); (case ht => kernel_rfl))
      | ((with_reducible apply wps_load S 0); (case hx => rfl); (case hi => rfl); (case hT => decide +kernel); (case hu => rfl))
      | ((with_reducible apply wps_loada (T := 30) (k := 7) S 0); (case hx => rfl); (case hi => rfl); (case hT => decide +kernel); (case hk => exact Nat.le_of_ble_eq_true rfl))
    exact leaves_ret rfl (results1 rfl (S.res1 0 rfl rfl (by kernel_rfl))) ⟨rfl, S.below⟩
  have k1 : decide ((30 : Int) < l.length) = false := decide_eq_false (by omega)
  have k2 : decide ((30 : Int) < m.length) = false := decide_eq_false (by omega)
  have HB := Lib.hid fun v w F h => batches_calls v (l ++ m) w F h (by simp; omega)
  have hq : ∀ (w : World) (b : Nat), (binOp .eql 25 (.func (.func 35) #[] #[.pointer (some ⟨b, 0, none⟩)]) .nilFunc).run Try.prog w = .ok (.bool false) w := fun w b => run_eql_func_nil w _ _ _ Try.underlying25
  replace S := S.nil 30 Event.cells 7
  go_wp2_with first
    | go_skip
    | ((with_reducible refine wpList_skip ?hw ?_); (case hw => with_unfolding_all rfl); simp only [Act.put, List.setIfInBounds_toArray, List.set_cons_succ, List.set_cons_zero])
    | ((with_reducible apply wps_alloc1 (E := 4) S); (case hz => exact Try.zeroValue4); (case h1 => rfl); clear S; intro b4 wz S)
    | ((with_reducible apply wps_alloc1 (E := 22) S); (case hz => exact Try.zeroValue22); (case h1 => rfl); clear S; intro b5 wz S)
    | ((with_reducible apply wps_alloc1 (E := 3) S); (case hz => exact Try.zeroValue3); (case h1 => rfl); clear S; intro b7 wz S)
    | ((with_reducible apply wps_load S 0); (case hx => rfl); (case hi => rfl); (case hT => decide +kernel); (case hu => rfl))
    | ((with_reducible apply wps_appends elem_Ev ecells eone (by decide) S 2 (j := 3)); (case hx => rfl); (case hy => rfl); (case hi => rfl); (case hj => rfl); (case hl => first | omega | (simp; omega)); clear S; intro az nz cz wz hnz S; simp only [List.set_cons_succ, List.set_cons_zero] at S)
    | ((with_reducible apply wps_appends elem_Ev ecells eone (by decide) S 2 (j := 4)); (case hx => rfl); (case hy => rfl); (case hi => rfl); (case hj => rfl); (case hl => first | omega | (simp; omega)); clear S; intro az nz cz wz hnz S; simp only [List.set_cons_succ, List.set_cons_zero] at S)
    | ((with_reducible apply wps_store (u := .slice _ _ _) S 0); (case hx => rfl); (case hy => rfl); (case hi => rfl); (case hT => decide +kernel); (case h1 => rfl); (case hn => exact Nat.le_of_ble_eq_true rfl); clear S; intro wz S; simp only [List.set_cons_zero, List.setIfInBounds_toArray] at S)
    | (go_at_call 11; simp only [List.nil_append] at S; refine Calls.mono (HB.out _ _ _ (own_sl (sh := true) ecells (S.get (i := 2) rfl).choose_spec)) ?_; rintro e wz ⟨bt, ad5, c5, rfl, T⟩; replace S := S.join T rfl; clear T; simp only [List.cons_append, List.nil_append] at S)
    | ((with_reducible apply wps_store (u := .int .i64 0) S 0); (case hx => rfl); (case hy => rfl); (case hi => rfl); (case hT => decide +kernel); (case h1 => rfl); (case hn => exact Nat.le_of_ble_eq_true rfl); clear S; intro wz S; simp only [List.set_cons_zero, List.setIfInBounds_toArray] at S)
    | ((with_reducible refine tot_done ?ht ?_); (case ht => kernel_rfl))
    | ((with_reducible apply wps_load S 0); (case hx => rfl); (case hi => rfl); (case hT => decide +kernel); (case hu => rfl))
    | ((with_reducible apply wps_loada (T := 30) (k := 7) S 0); (case hx => rfl); (case hi => rfl); (case hT => decide +kernel); (case hk => exact Nat.le_of_ble_eq_true rfl))
  have hnz2 : nz = (l ++ m).length := by
    obtain ⟨_, _, e, _⟩ := (S.ownsl ecells 5 rfl).elim fun _ h => h.form
    simp only [Value.slice.injEq] at e
    exact e.2.1
  subst hnz2
  replace S := ((S.freeze true 5 ecells rfl).freeze true 2 ecells rfl).weak (i := 1) (A' := Blk true bt #[.slice ad5 (l ++ m).length c5] 22) rfl (fun e => by cases e) (fun F h => ⟨F, fun _ hb => hb, h⟩)
  replace S := S.pick [1, 2, 0, 3, 5, 4] rfl
  simp only [List.set_cons_zero, List.set_cons_succ, pick, nth] at S
  have hal : (l ++ m).length ≤ 60 := by rw [List.length_append]; omega
  clear hq HB k1 k2 g1 g2
  generalize l ++ m = all at *
  have Hlen := Lib.hid (sortE_len all)
  rw [← Hlen.out] at S
  have Hfl := Lib.hid (batches_flat _ (sortE all) (Nat.le_refl _))
  have Hbo := Lib.hid fun g (hg : g ∈ batchesE (sortE all)) => batch_of all hg
  have Hs60 : Hid ((sortE all).length ≤ 60) := by show _ ≤ _; rw [Hlen.out]; exact hal
  refine wps_range (batches1_iter bt ad5 c5 (sortE all) (by have := Hs60.out; omega)) S rfl (calls_enter Try.func35 (by kernel_rfl) rfl) (KbPhi (batchesE (sortE all)) all (.slice az (sortE all).length cz) b4 b5 b7) (fun _ _ _ => False) rfl (fun x args N h => by obtain ⟨_, _, rfl, _⟩ := h; rfl) ?round ?done ?stop
  case stop => intro _ _ _ _ _ _ h; exact h.elim
  case round =>
    rintro lp2 D r k g args N L W hg ⟨a0, gv, rfl, ha0, rfl⟩ hL S
    unfold KbPhi at hL
    subst hL
    rw [Hlen.out] at S
    simp only [zip_two, List.setIfInBounds_toArray, List.set_cons_succ, List.set_cons_zero, List.cons_append, List.nil_append] at S ⊢
    have Hgj := Lib.hid hg
    have hgm := List.mem_of_getElem? hg
    have h2 := ahead_part Hfl.out hg
    obtain ⟨n0, hn0⟩ : ∃ n, aheadN (batchesE (sortE all)) k = n := ⟨_, rfl⟩
    rw [hn0] at S
    rw [hn0] at h2
    have Hn0 := Lib.hid hn0
    have Hg : Hid (sortE (all.filter (fun y => y.key.at_ == a0)) = g) := by show _ = _; rw [ha0]; exact Hbo.out g hgm
    have hg60 : n0 + g.length ≤ 60 := Nat.le_trans h2.1 Hs60.out
    have HQ : Hid (∀ v1 v2 w F1 F2, (Sl true Event.cells 7 v1 g).at_ w F1 → (Sl true Event.cells 7 v2 g).at_ w F2 → Calls Try.prog 12 #[v1, v2] w fun r w' => r = .returned (.bool true) ∧ Below w.heap.size w w') := fun v1 v2 w F1 F2 h1 h2 => by
      have := evseq_calls v1 v2 g g w F1 F2 h1 h2 (by omega) (by omega)
      rwa [decide_eq_true rfl] at this
    clear h2 hgm hg hn0 ha0
    obtain ⟨ag, cg, rfl, _⟩ := (S.ownsl ecells 0 rfl).elim fun _ h => h.form
    replace S := S.freeze true 0 ecells rfl
    simp only [List.set_cons_zero] at S
    gi_wp2_with first
      | (refine wpi_at (.inr ⟨_, rfl⟩) rfl fun K hK => ?_
         go_wp2_with first
           | go_skip
           | ((with_reducible refine wpList_skip ?hw ?_); (case hw => with_unfolding_all rfl); simp only [Act.put, List.setIfInBounds_toArray, List.set_cons_succ, List.set_cons_zero])
           | ((with_reducible refine tot_done ?ht ?_); (case ht => kernel_rfl))
         refine hK _ _ ?_
         (try simp only [Act.put]); (try simp only [List.setIfInBounds_toArray]); (try simp only [List.set_cons_succ]); (try simp only [List.set_cons_zero])
         clear hK K)
    refine ⟨_, S.lastSplit rfl, fun r' W2 S => ?_⟩
    simp only [List.dropLast, List.cons_append, List.nil_append] at S
    replace S := S.nil 30 Event.cells 7
    gi_wp2_with first
      | (refine wpi_at (.inr ⟨_, rfl⟩) rfl fun K hK => ?_
         go_wp2_with first
           | go_skip
           | ((with_reducible refine wpList_skip ?hw ?_); (case hw => with_unfolding_all rfl); simp only [Act.put, List.setIfInBounds_toArray, List.set_cons_succ, List.set_cons_zero])
           | ((with_reducible refine tot_done ?ht ?_); (case ht => kernel_rfl))
         refine hK _ _ ?_
         (try simp only [Act.put]); (try simp only [List.setIfInBounds_toArray]); (try simp only [List.set_cons_succ]); (try simp only [List.set_cons_zero])
         clear hK K)
    gi_loopw [10, 11] (fun v i wr => KbRel w [Sl true Event.cells 7 (.slice ag g.length cg) g, Blk true bt #[.slice ad5 all.length c5] 22, Sl true Event.cells 7 (.slice ad5 all.length c5) (sortE all), Blk false b7 #[.int .i64 (n0 : Nat)] 3, Blk false b5 #[.slice az all.length cz] 22, Sl true Event.cells 7 (.slice az all.length cz) all, Blk false b4 #[.bool false] 4, LoopA lp2 D r'] all a0 v i wr) (fun _ i _ => all.length - (intOf i).toNat)
    case atStart => exact ⟨0, [], Nat.zero_le _, rfl, rfl, Nat.le_refl _, S⟩
    case round =>
      clear S
      obtain ⟨j, wn, hj, rfl, Hw, hwl, S⟩ := hrel
      by_cases hlt : j < all.length
      · obtain ⟨x, hx⟩ : ∃ x, all[j]? = some x := ⟨_, List.getElem?_eq_getElem hlt⟩
        obtain ⟨Ra, oa, rfl⟩ : ∃ R o, az = some ⟨R, o, none⟩ := (S.sl 6 rfl).elim fun F h => h.head (by omega)
        have hlt2 : (j : Int) < all.length := by omega
        have hpush := filter_push (p := fun y : Event => y.key.at_ == a0) hx
        rw [← Hw.out] at hpush
        by_cases he : x.key.at_ = a0
        · have Hw2 : Hid (wn ++ [x] = (all.take (j + 1)).filter (fun y => y.key.at_ == a0)) := by show _ = _; rw [hpush, if_pos (by simpa using he)]
          clear hpush
          have Hx := Lib.hid hx
          clear hx
          gi_wp2_with first
            | (refine wpi_at (.inr ⟨_, rfl⟩) rfl fun K hK => ?_
               go_wp2_with first
                 | go_skip
                 | ((with_reducible refine wpList_skip ?hw ?_); (case hw => with_unfolding_all rfl); simp only [Act.put, List.setIfInBounds_toArray, List.set_cons_succ, List.set_cons_zero])
                 | ((with_reducible refine tot_done ?ht ?_); (case ht => kernel_rfl))
                 | ((with_reducible apply wps_load S 5); (case hx => rfl); (case hi => rfl); (case hT => decide +kernel); (case hu => rfl))
                 | ((with_reducible apply wps_load S 6); (case hx => rfl); (case hi => rfl); (case hT => decide +kernel); (case hu => rfl))
                 | ((with_reducible apply wps_loada_el S 6 (hj := Hx.out) (q := 0) (vs := [.int .i64 x.key.at_, .int .i64 x.key.src, .int .i64 x.key.sent, .int .i64 x.key.no, .int .i64 x.dst, .int .i64 x.kind, .int .i64 x.data]) (m := 7)); (case hx => rfl); (case hT => decide +kernel); (case hi => rfl); (case hn => omega); (case hm => rfl); (case hv => rfl))
                 | ((with_reducible apply wps_load_el S 6 (hj := Hx.out) (q := 0) (u := .int .i64 x.key.at_)); (case hx => rfl); (case hi => rfl); (case hn => omega); (case hT => decide +kernel); (case hu => rfl))
                 | ((with_reducible apply wps_build1a (T := 22) (E := 30) S); (case hx => rfl); (case hr => intro w; kernel_rfl); clear S; intro bz wz S)
                 | ((with_reducible apply wps_append1 elem_Ev ecells eone (by decide) S 1 (j := 0) (e := x)); (case hx => rfl); (case hy => rfl); (case hi => rfl); (case hj => rfl); (case he => rfl); (case hl => first | omega | (simp; omega)); clear S; intro az nz cz wz hnz S; simp only [List.set_cons_succ, List.set_cons_zero] at S)
               refine hK _ _ ?_
               (try simp only [Act.put]); (try simp only [List.setIfInBounds_toArray]); (try simp only [List.set_cons_succ]); (try simp only [List.set_cons_zero])
               clear hK K)
          go_roundw
          case rel => exact ⟨j + 1, wn ++ [x], by omega, by go_num, Hw2.out, by simp; omega, S.pick [1, 2, 3, 4, 5, 6, 7, 8, 9] rfl⟩
          case measure => first | (simp [intOf]; done) | (simp [intOf]; omega)
        · have Hw2 : Hid (wn = (all.take (j + 1)).filter (fun y => y.key.at_ == a0)) := by show _ = _; rw [hpush, if_neg (by simpa using he), List.append_nil]
          clear hpush
          have Hx := Lib.hid hx
          clear hx
          gi_wp2_with first
            | (refine wpi_at (.inr ⟨_, rfl⟩) rfl fun K hK => ?_
               go_wp2_with first
                 | go_skip
                 | ((with_reducible refine wpList_skip ?hw ?_); (case hw => with_unfolding_all rfl); simp only [Act.put, List.setIfInBounds_toArray, List.set_cons_succ, List.set_cons_zero])
                 | ((with_reducible refine tot_done ?ht ?_); (case ht => kernel_rfl))
                 | ((with_reducible apply wps_load S 5); (case hx => rfl); (case hi => rfl); (case hT => decide +kernel); (case hu => rfl))
                 | ((with_reducible apply wps_loada_el S 6 (hj := Hx.out) (q := 0) (vs := [.int .i64 x.key.at_, .int .i64 x.key.src, .int .i64 x.key.sent, .int .i64 x.key.no, .int .i64 x.dst, .int .i64 x.kind, .int .i64 x.data]) (m := 7)); (case hx => rfl); (case hT => decide +kernel); (case hi => rfl); (case hn => omega); (case hm => rfl); (case hv => rfl))
                 | ((with_reducible apply wps_load_el S 6 (hj := Hx.out) (q := 0) (u := .int .i64 x.key.at_)); (case hx => rfl); (case hi => rfl); (case hn => omega); (case hT => decide +kernel); (case hu => rfl))
               refine hK _ _ ?_
               (try simp only [Act.put]); (try simp only [List.setIfInBounds_toArray]); (try simp only [List.set_cons_succ]); (try simp only [List.set_cons_zero])
               clear hK K)
          go_roundw
          case rel => exact ⟨j + 1, wn, by omega, by go_num, Hw2.out, by omega, S⟩
          case measure => first | (simp [intOf]; done) | (simp [intOf]; omega)
      · obtain rfl : j = all.length := by omega
        have Hw2 : Hid (sortE wn = g) := by have := Hw.out; rw [List.take_length] at this; show _ = _; rw [this]; exact Hg.out
        obtain ⟨aw, cw, rfl, _⟩ := (S.ownsl ecells 0 rfl).elim fun _ h => h.form
        gi_wp2_with first
          | (refine wpi_at (.inr ⟨_, rfl⟩) rfl fun K hK => ?_
             go_wp2_with first
               | go_skip
               | ((with_reducible refine wpList_skip ?hw ?_); (case hw => with_unfolding_all rfl); simp only [Act.put, List.setIfInBounds_toArray, List.set_cons_succ, List.set_cons_zero])
               | ((with_reducible refine tot_done ?ht ?_); (case ht => kernel_rfl))
               | ((with_reducible apply wps_load S 4); (case hx => rfl); (case hi => rfl); (case hT => decide +kernel); (case hu => rfl))
               | ((with_reducible apply wps_load S 5); (case hx => rfl); (case hi => rfl); (case hT => decide +kernel); (case hu => rfl))
               | (go_at_call 13; refine Calls.mono (sort_calls _ wn _ _ (own_sl (sh := true) ecells (S.get (i := 0) rfl).choose_spec) (by omega)) ?_; rintro e wz ⟨ad4, c4, rfl, T⟩; replace S := S.join T rfl; clear T; simp only [List.cons_append, List.nil_append] at S)
               | (go_at_call 12; rw [Hw2.out] at S; refine Calls.mono (HQ.out _ _ _ _ _ (S.get (i := 2) rfl).choose_spec (own_sl (sh := true) ecells (S.get (i := 0) rfl).choose_spec)) ?_; rintro e wz ⟨rfl, hE⟩; replace S := S.ext (Keep.of_below hE); clear hE)
               | ((with_reducible apply wps_load S 5); (case hx => rfl); (case hi => rfl); (case hT => decide +kernel); (case hu => rfl))
               | ((with_reducible apply wps_store (u := .int .i64 ((n0:Int) + g.length)) S 5); (case hx => rfl); (case hy => rfl); (case hi => rfl); (case hT => decide +kernel); (case h1 => rfl); (case hn => exact Nat.le_of_ble_eq_true rfl); clear S; intro wz S; simp only [List.set_cons_succ, List.set_cons_zero, List.setIfInBounds_toArray] at S)
             refine hK _ _ ?_
             (try simp only [Act.put]); (try simp only [List.setIfInBounds_toArray]); (try simp only [List.set_cons_succ]); (try simp only [List.set_cons_zero])
             clear hK K)
        refine ⟨[Blk false b7 #[.int .i64 ((n0:Int) + g.length)] 3, Blk false b5 #[.slice az all.length cz] 22, Sl true Event.cells 7 (.slice az all.length cz) all, Blk false b4 #[.bool false] 4], ?_, by rw [Hlen.out]; exact S.pick [3, 4, 5, 6, 7, 8, 9] rfl⟩
        unfold KbPhi
        rw [ahead_step Hgj.out, Hn0.out, Hlen.out]
        rfl
  case done =>
    rintro D W L hL S
    unfold KbPhi at hL
    subst hL
    rw [ahead_all Hfl.out] at S
    simp only [List.cons_append, List.nil_append] at S
    generalize (sortE all).length = nl at *
    have kq : (((nl : Nat) : Int) == (nl : Nat)) = true := by simp
    go_wp2_with first
      | go_skip
      | ((with_reducible refine wpList_skip ?hw ?_); (case hw => with_unfolding_all rfl); simp only [Act.put, List.setIfInBounds_toArray, List.set_cons_succ, List.set_cons_zero])
      | ((with_reducible refine tot_done ?ht ?_); (case ht => kernel_rfl))
      | ((with_reducible apply wps_load S 3); (case hx => rfl); (case hi => rfl); (case hT => decide +kernel); (case hu => rfl))
      | ((with_reducible apply wps_load S 4); (case hx => rfl); (case hi => rfl); (case hT => decide +kernel); (case hu => rfl))
      | (go_at_call 10; refine Calls.mono (awake_calls _) ?_; rintro e wz ⟨rfl, hE⟩; replace S := S.ext (Keep.of_below hE); clear hE)
      | ((with_reducible apply wps_store (u := .bool true) S 6); (case hx => rfl); (case hy => rfl); (case hi => rfl); (case hT => decide +kernel); (case h1 => rfl); (case hn => exact Nat.le_of_ble_eq_true rfl); clear S; intro wz S; simp only [List.set_cons_succ, List.set_cons_zero, List.setIfInBounds_toArray] at S)
    refine leaves_ret1 S rfl fun w' S => ⟨_, results1 rfl (S.res1 5 rfl rfl (by kernel_rfl)), ⟨rfl, S.below⟩⟩
end Go.Proofs.Ytcbdacmdmaoegaa

import Derived.Test.YtcbdacmdmaoegaaK1
import Derived.Test.YtcbdacmdmaoegaaSort
import Derived.Test.YtcbdacmdmaoegaaLay
import Derived.Test.YtcbdacmdmaoegaaAny
/- The walk of keys.byID: the places of messages, sorted by IDs. -/
namespace Go.Proofs.Ytcbdacmdmaoegaa
open Go.RowKit Reg Mem

theorem mcells : ∀ r : Message, r.cells.length = 8 := fun _ => rfl
theorem mone : ∀ r : Message, ∀ u ∈ r.cells, u.oneCell' = true := fun _ => by simp [Message.cells, Value.oneCell']
theorem orL_key (a b c d a' b' c' d' : Int) : orL [icmp a a', icmp b b', icmp c c', icmp d d'] = Key.cmp ⟨a, b, c, d⟩ ⟨a', b', c', d'⟩ := by
  have h : ∀ x y : Int, (x < y ∧ icmp x y = -1) ∨ (x = y ∧ icmp x y = 0) ∨ (y < x ∧ icmp x y = 1) := fun x y => by
    unfold icmp
    rcases Int.lt_trichotomy x y with h | h | h
    · exact .inl ⟨h, by rw [if_pos h]⟩
    · exact .inr (.inl ⟨h, by rw [if_neg (by omega), if_neg (by omega)]⟩)
    · exact .inr (.inr ⟨h, by rw [if_neg (by omega), if_pos h]⟩)
  have hl : ∀ k l : Key, k.lt l = decide (k.at_ < l.at_ ∨ (k.at_ = l.at_ ∧ (k.src < l.src ∨ (k.src = l.src ∧ (k.sent < l.sent ∨ (k.sent = l.sent ∧ k.no < l.no)))))) := fun k l => by
    rw [Bool.eq_iff_iff, Key.lt_iff]; simp
  unfold Key.cmp
  rw [hl, hl]
  simp only [decide_eq_true_eq]
  rcases h a a' with ⟨h1, e1⟩ | ⟨h1, e1⟩ | ⟨h1, e1⟩ <;> rw [e1]
  · rw [if_pos (by omega)]; rfl
  · rcases h b b' with ⟨h2, e2⟩ | ⟨h2, e2⟩ | ⟨h2, e2⟩ <;> rw [e2]
    · rw [if_pos (by omega)]; rfl
    · rcases h c c' with ⟨h3, e3⟩ | ⟨h3, e3⟩ | ⟨h3, e3⟩ <;> rw [e3]
      · rw [if_pos (by omega)]; rfl
      · rcases h d d' with ⟨h4, e4⟩ | ⟨h4, e4⟩ | ⟨h4, e4⟩ <;> rw [e4]
        · rw [if_pos (by omega)]; rfl
        · rw [if_neg (by omega), if_neg (by omega)]; rfl
        · rw [if_neg (by omega), if_pos (by omega)]; rfl
      · rw [if_neg (by omega), if_pos (by omega)]; rfl
    · rw [if_neg (by omega), if_pos (by omega)]; rfl
  · rw [if_neg (by omega), if_pos (by omega)]; rfl
set_option maxRecDepth 100000 in
set_option maxHeartbeats 4000000 in
theorem byid1_calls (l : List Message) (i j : Fin l.length) (c : Nat) (v : Value) (W : World) {F1 F2 : Nat → Prop} (hc : (Blk true c #[v] 68).at_ W F1) (hl : (Sl true Message.cells 8 v l).at_ W F2) :
    Calls Try.prog 61 #[.int .i64 (i.val : Nat), .int .i64 (j.val : Nat), .pointer (some ⟨c, 0, none⟩)] W fun e w' => e = .returned (.int .i64 (Key.cmp (placeKey l i) (placeKey l j))) ∧ Below W.heap.size W w' := by
  have S := (((St.init (fun _ => False) W).share rfl rfl hl).share rfl rfl hc)
  obtain ⟨F3, hs⟩ := S.sl 1 rfl
  obtain ⟨ad, cp, rfl, _⟩ := hs.form
  obtain ⟨R, o, rfl⟩ : ∃ R o, ad = some ⟨R, o, none⟩ := hs.head (by have := i.2; omega)
  clear hs hc hl
  obtain ⟨i, hi⟩ := i
  obtain ⟨j, hj⟩ := j
  simp only [placeKey, idKey]
  have hi2 : (i : Int) < l.length := by omega
  have hj2 : (j : Int) < l.length := by omega
  obtain ⟨x, hx⟩ : ∃ x, x = l[i] := ⟨_, rfl⟩
  obtain ⟨y, hy⟩ : ∃ y, y = l[j] := ⟨_, rfl⟩
  have hx2 : l[i]? = some x := by rw [hx, List.getElem?_eq_getElem hi]
  have hy2 : l[j]? = some y := by rw [hy, List.getElem?_eq_getElem hj]
  simp only [Fin.getElem_fin, ← hx, ← hy]
  clear hx hy
  have Hx2 := Lib.hid hx2
  have Hy2 := Lib.hid hy2
  clear hx2 hy2
  go_enter Try.func61, Try.ntmps61
  go_wp2_with first
    | ((with_reducible refine tot_done ?ht ?_); (case ht => kernel_rfl))
    | ((with_reducible apply wps_text S); (case hm => kernel_rfl); (case hB => decide +kernel); clear S; intro wz S)
    | ((with_reducible apply wps_alloca (E := 76) S); (case hz => exact Try.zeroValue76); clear S; intro bz wz S)
    | ((with_reducible apply wps_load S 0); (case hx => rfl); (case hi => rfl); (case hT => decide +kernel); (case hu => rfl))
    | ((with_reducible apply wps_loada (T := 30) (k := 7) S 0); (case hx => rfl); (case hi => rfl); (case hT => decide +kernel); (case hk => exact Nat.le_of_ble_eq_true rfl))
    | ((with_reducible apply wps_load S 1); (case hx => rfl); (case hi => rfl); (case hT => decide +kernel); (case hu => rfl))
    | ((with_reducible apply wps_loada (T := 30) (k := 7) S 1); (case hx => rfl); (case hi => rfl); (case hT => decide +kernel); (case hk => exact Nat.le_of_ble_eq_true rfl))
    | ((with_reducible apply wps_load S 2); (case hx => rfl); (case hi => rfl); (case hT => decide +kernel); (case hu => rfl))
    | ((with_reducible apply wps_loada (T := 30) (k := 7) S 2); (case hx => rfl); (case hi => rfl); (case hT => decide +kernel); (case hk => exact Nat.le_of_ble_eq_true rfl))
    | ((with_reducible apply wps_load S 3); (case hx => rfl); (case hi => rfl); (case hT => decide +kernel); (case hu => rfl))
    | ((with_reducible apply wps_loada (T := 30) (k := 7) S 3); (case hx => rfl); (case hi => rfl); (case hT => decide +kernel); (case hk => exact Nat.le_of_ble_eq_true rfl))
  (refine wp_region_w (soft := [0, 1, 2, 3, 4, 5, 6, 7, 8, 9, 10, 11]) S ?hm ?hB ?_); (case hm => kernel_rfl); (case hB => decide +kernel); clear S
  iterate 12
    (with_reducible apply softs_cons)
    (case hw =>
      (with_reducible apply soft_of); (case hi => rfl)
      intro T wz S
      simp only [List.cons_append, List.nil_append] at S
      go_wp2_with first
        | ((with_reducible apply wps_loada_el S 1 (hj := Hx2.out) (q := 0) (vs := [.int .i64 x.ev.key.at_, .int .i64 x.ev.key.src, .int .i64 x.ev.key.sent, .int .i64 x.ev.key.no, .int .i64 x.ev.dst, .int .i64 x.ev.kind, .int .i64 x.ev.data]) (m := 7)); (case hx => rfl); (case hT => decide +kernel); (case hi => rfl); (case hn => omega); (case hm => rfl); (case hv => rfl))
        | ((with_reducible apply wps_loada_el S 1 (hj := Hy2.out) (q := 0) (vs := [.int .i64 y.ev.key.at_, .int .i64 y.ev.key.src, .int .i64 y.ev.key.sent, .int .i64 y.ev.key.no, .int .i64 y.ev.dst, .int .i64 y.ev.kind, .int .i64 y.ev.data]) (m := 7)); (case hx => rfl); (case hT => decide +kernel); (case hi => rfl); (case hn => omega); (case hm => rfl); (case hv => rfl))
        | (go_at_call 34; refine Calls.mono (of_calls _ _) ?_; rintro e wz ⟨rfl, hE⟩; replace S := S.ext (Keep.of_below hE); clear hE)
        | ((with_reducible refine tot_done ?ht ?_); (case ht => kernel_rfl))
        | ((with_reducible apply wps_alloca (E := 76) S); (case hz => exact Try.zeroValue76); clear S; intro bz wz S)
        | ((with_reducible apply wps_load S 0); (case hx => rfl); (case hi => rfl); (case hT => decide +kernel); (case hu => rfl))
        | ((with_reducible apply wps_loada (T := 30) (k := 7) S 0); (case hx => rfl); (case hi => rfl); (case hT => decide +kernel); (case hk => exact Nat.le_of_ble_eq_true rfl))
        | ((with_reducible apply wps_load S 1); (case hx => rfl); (case hi => rfl); (case hT => decide +kernel); (case hu => rfl))
        | ((with_reducible apply wps_loada (T := 30) (k := 7) S 1); (case hx => rfl); (case hi => rfl); (case hT => decide +kernel); (case hk => exact Nat.le_of_ble_eq_true rfl))
      exact ⟨rfl, S⟩)
    (case hs => exact ⟨_, rfl, by kernel_rfl⟩)
  refine softs_nil ?_
  repeat'
    (first
      | ((with_reducible apply W_hard1 (i := 12)); (case hn => rfl); (case hr => decide +kernel))
      | ((with_reducible apply W_hard1 (i := 13)); (case hn => rfl); (case hr => decide +kernel))
      | ((with_reducible apply W_hard1 (i := 14)); (case hn => rfl); (case hr => decide +kernel))
      | ((with_reducible apply W_hard1 (i := 15)); (case hn => rfl); (case hr => decide +kernel))
      | ((with_reducible apply W_hard2 (i := 12) (i' := 13)); (case hn => rfl); (case hr => decide +kernel))
      | ((with_reducible apply W_hard2 (i := 12) (i' := 14)); (case hn => rfl); (case hr => decide +kernel))
      | ((with_reducible apply W_hard2 (i := 12) (i' := 15)); (case hn => rfl); (case hr => decide +kernel))
      | ((with_reducible apply W_hard2 (i := 13) (i' := 14)); (case hn => rfl); (case hr => decide +kernel))
      | ((with_reducible apply W_hard2 (i := 13) (i' := 15)); (case hn => rfl); (case hr => decide +kernel))
      | ((with_reducible apply W_hard2 (i := 14) (i' := 15)); (case hn => rfl); (case hr => decide +kernel)))
    all_goals
      intro wz S
      (with_reducible apply hard_of); (case hi => rfl)
      simp only [List.cons_append, List.nil_append] at S
      try simp only [pick, nth] at S
      go_wp2_with first
        | ((with_reducible apply wps_storea (T := 76) S 2 (vs := [.int .i64 x.ev.key.src, .int .i64 x.ev.key.sent, .int .i64 x.ev.key.no]) (m := 3)); (case hx => rfl); (case hy => rfl); (case hi => rfl); (case hT => decide +kernel); (case hm => rfl); (case h1 => rfl); (case hn => exact Nat.le_of_ble_eq_true rfl); clear S; intro wz S; simp only [List.set_cons_zero, List.set_cons_succ, setAll, List.setIfInBounds_toArray] at S)
        | ((with_reducible apply wps_storea (T := 76) S 2 (vs := [.int .i64 y.ev.key.src, .int .i64 y.ev.key.sent, .int .i64 y.ev.key.no]) (m := 3)); (case hx => rfl); (case hy => rfl); (case hi => rfl); (case hT => decide +kernel); (case hm => rfl); (case h1 => rfl); (case hn => exact Nat.le_of_ble_eq_true rfl); clear S; intro wz S; simp only [List.set_cons_zero, List.set_cons_succ, setAll, List.setIfInBounds_toArray] at S)
        | ((with_reducible apply wps_storea (T := 76) S 3 (vs := [.int .i64 x.ev.key.src, .int .i64 x.ev.key.sent, .int .i64 x.ev.key.no]) (m := 3)); (case hx => rfl); (case hy => rfl); (case hi => rfl); (case hT => decide +kernel); (case hm => rfl); (case h1 => rfl); (case hn => exact Nat.le_of_ble_eq_true rfl); clear S; intro wz S; simp only [List.set_cons_zero, List.set_cons_succ, setAll, List.setIfInBounds_toArray] at S)
        | ((with_reducible apply wps_storea (T := 76) S 3 (vs := [.int .i64 y.ev.key.src, .int .i64 y.ev.key.sent, .int .i64 y.ev.key.no]) (m := 3)); (case hx => rfl); (case hy => rfl); (case hi => rfl); (case hT => decide +kernel); (case hm => rfl); (case h1 => rfl); (case hn => exact Nat.le_of_ble_eq_true rfl); clear S; intro wz S; simp only [List.set_cons_zero, List.set_cons_succ, setAll, List.setIfInBounds_toArray] at S)
        | ((with_reducible refine tot_done ?ht ?_); (case ht => kernel_rfl))
        | ((with_reducible apply wps_alloca (E := 76) S); (case hz => exact Try.zeroValue76); clear S; intro bz wz S)
        | ((with_reducible apply wps_load S 0); (case hx => rfl); (case hi => rfl); (case hT => decide +kernel); (case hu => rfl))
        | ((with_reducible apply wps_loada (T := 30) (k := 7) S 0); (case hx => rfl); (case hi => rfl); (case hT => decide +kernel); (case hk => exact Nat.le_of_ble_eq_true rfl))
        | ((with_reducible apply wps_load S 1); (case hx => rfl); (case hi => rfl); (case hT => decide +kernel); (case hu => rfl))
        | ((with_reducible apply wps_loada (T := 30) (k := 7) S 1); (case hx => rfl); (case hi => rfl); (case hT => decide +kernel); (case hk => exact Nat.le_of_ble_eq_true rfl))
        | ((with_reducible apply wps_load S 2); (case hx => rfl); (case hi => rfl); (case hT => decide +kernel); (case hu => rfl))
        | ((with_reducible apply wps_loada (T := 30) (k := 7) S 2); (case hx => rfl); (case hi => rfl); (case hT => decide +kernel); (case hk => exact Nat.le_of_ble_eq_true rfl))
        | ((with_reducible apply wps_load S 3); (case hx => rfl); (case hi => rfl); (case hT => decide +kernel); (case hu => rfl))
        | ((with_reducible apply wps_loada (T := 30) (k := 7) S 3); (case hx => rfl); (case hi => rfl); (case hT => decide +kernel); (case hk => exact Nat.le_of_ble_eq_true rfl))
        | ((with_reducible apply wps_load S 4); (case hx => rfl); (case hi => rfl); (case hT => decide +kernel); (case hu => rfl))
        | ((with_reducible apply wps_loada (T := 30) (k := 7) S 4); (case hx => rfl); (case hi => rfl); (case hT => decide +kernel); (case hk => exact Nat.le_of_ble_eq_true rfl))
        | ((with_reducible apply wps_load S 5); (case hx => rfl); (case hi => rfl); (case hT => decide +kernel); (case hu => rfl))
        | ((with_reducible apply wps_loada (T := 30) (k := 7) S 5); (case hx => rfl); (case hi => rfl); (case hT => decide +kernel); (case hk => exact Nat.le_of_ble_eq_true rfl))
      first
        | refine ⟨_, S.pick [1, 2, 3, 4, 5, 6, 0] rfl, ?_⟩
        | refine ⟨_, S.pick [1, 2, 3, 4, 5, 0] rfl, ?_⟩
        | refine ⟨_, S.pick [1, 2, 3, 4, 0] rfl, ?_⟩
        | refine ⟨_, S.pick [1, 2, 3, 0] rfl, ?_⟩
        | refine ⟨_, S.pick [1, 2, 0] rfl, ?_⟩
        | refine ⟨_, S, ?_⟩
  all_goals
    (with_reducible apply W_done); (case hn => rfl); (case hr => decide +kernel)
    clear S
    intro wz S
    simp only [List.cons_append, List.nil_append] at S
    try simp only [pick, nth] at S
    go_wp2_with first
      | ((with_reducible refine tot_done ?ht ?_); (case ht => kernel_rfl))
      | ((with_reducible apply wps_text S); (case hm => kernel_rfl); (case hB => decide +kernel); clear S; intro wz S)
      | ((with_reducible apply wps_alloca (E := 76) S); (case hz => exact Try.zeroValue76); clear S; intro bz wz S)
      | ((with_reducible apply wps_load S 0); (case hx => rfl); (case hi => rfl); (case hT => decide +kernel); (case hu => rfl))
      | ((with_reducible apply wps_loada (T := 30) (k := 7) S 0); (case hx => rfl); (case hi => rfl); (case hT => decide +kernel); (case hk => exact Nat.le_of_ble_eq_true rfl))
      | ((with_reducible apply wps_load S 1); (case hx => rfl); (case hi => rfl); (case hT => decide +kernel); (case hu => rfl))
      | ((with_reducible apply wps_loada (T := 30) (k := 7) S 1); (case hx => rfl); (case hi => rfl); (case hT => decide +kernel); (case hk => exact Nat.le_of_ble_eq_true rfl))
      | ((with_reducible apply wps_load S 2); (case hx => rfl); (case hi => rfl); (case hT => decide +kernel); (case hu => rfl))
      | ((with_reducible apply wps_loada (T := 30) (k := 7) S 2); (case hx => rfl); (case hi => rfl); (case hT => decide +kernel); (case hk => exact Nat.le_of_ble_eq_true rfl))
      | ((with_reducible apply wps_load S 3); (case hx => rfl); (case hi => rfl); (case hT => decide +kernel); (case hu => rfl))
      | ((with_reducible apply wps_loada (T := 30) (k := 7) S 3); (case hx => rfl); (case hi => rfl); (case hT => decide +kernel); (case hk => exact Nat.le_of_ble_eq_true rfl))
    (refine wp_region_w (soft := [0, 1, 2, 3, 4, 5, 6, 7, 8, 9, 10, 11, 12, 13, 14, 15, 16, 17]) S ?hm ?hB ?_); (case hm => kernel_rfl); (case hB => decide +kernel); clear S
    iterate 18
      (with_reducible apply softs_cons)
      (case hw =>
        (with_reducible apply soft_of); (case hi => rfl)
        intro T wz S
        simp only [List.cons_append, List.nil_append] at S
        go_wp2_with first
          | (go_at_call 63; refine Calls.mono (cmpInt_calls _ _ _) ?_; rintro e wz ⟨rfl, hE⟩; replace S := S.ext (Keep.of_below hE); clear hE)
          | ((with_reducible refine tot_done ?ht ?_); (case ht => kernel_rfl))
          | ((with_reducible apply wps_alloca (E := 76) S); (case hz => exact Try.zeroValue76); clear S; intro bz wz S)
          | ((with_reducible apply wps_load S 0); (case hx => rfl); (case hi => rfl); (case hT => decide +kernel); (case hu => rfl))
          | ((with_reducible apply wps_loada (T := 30) (k := 7) S 0); (case hx => rfl); (case hi => rfl); (case hT => decide +kernel); (case hk => exact Nat.le_of_ble_eq_true rfl))
          | ((with_reducible apply wps_load S 1); (case hx => rfl); (case hi => rfl); (case hT => decide +kernel); (case hu => rfl))
          | ((with_reducible apply wps_loada (T := 30) (k := 7) S 1); (case hx => rfl); (case hi => rfl); (case hT => decide +kernel); (case hk => exact Nat.le_of_ble_eq_true rfl))
          | ((with_reducible apply wps_load S 2); (case hx => rfl); (case hi => rfl); (case hT => decide +kernel); (case hu => rfl))
          | ((with_reducible apply wps_loada (T := 30) (k := 7) S 2); (case hx => rfl); (case hi => rfl); (case hT => decide +kernel); (case hk => exact Nat.le_of_ble_eq_true rfl))
          | ((with_reducible apply wps_load S 3); (case hx => rfl); (case hi => rfl); (case hT => decide +kernel); (case hu => rfl))
          | ((with_reducible apply wps_loada (T := 30) (k := 7) S 3); (case hx => rfl); (case hi => rfl); (case hT => decide +kernel); (case hk => exact Nat.le_of_ble_eq_true rfl))
        exact ⟨rfl, S⟩)
      (case hs => exact ⟨_, rfl, by kernel_rfl⟩)
    refine softs_nil ?_
    repeat'
      (first
        | ((with_reducible apply W_hard1 (i := 18)); (case hn => rfl); (case hr => decide +kernel))
        | ((with_reducible apply W_hard1 (i := 19)); (case hn => rfl); (case hr => decide +kernel))
        | ((with_reducible apply W_hard1 (i := 20)); (case hn => rfl); (case hr => decide +kernel))
        | ((with_reducible apply W_hard2 (i := 18) (i' := 19)); (case hn => rfl); (case hr => decide +kernel))
        | ((with_reducible apply W_hard2 (i := 18) (i' := 20)); (case hn => rfl); (case hr => decide +kernel))
        | ((with_reducible apply W_hard2 (i := 19) (i' := 20)); (case hn => rfl); (case hr => decide +kernel)))
      all_goals
        intro wz S
        (with_reducible apply hard_of); (case hi => rfl)
        simp only [List.cons_append, List.nil_append] at S
        try simp only [pick, nth] at S
        go_wp2_with first
          | ((with_reducible apply wps_buildSlice (T := 61) (E := 3) (cs := #[.int .i64 (icmp x.ev.key.src y.ev.key.src), .int .i64 (icmp x.ev.key.sent y.ev.key.sent), .int .i64 (icmp x.ev.key.no y.ev.key.no), .int .i64 (icmp i j)]) S); (case hr => intro w; kernel_rfl); clear S; intro bz wz S)
          | (go_at_call 62; refine Calls.mono (orInt_calls _ [icmp x.ev.key.src y.ev.key.src, icmp x.ev.key.sent y.ev.key.sent, icmp x.ev.key.no y.ev.key.no, icmp i j] _ _ (blk_sl _ intE_len (S.get (i := 4) rfl).choose_spec rfl rfl) (Nat.le_of_ble_eq_true rfl)) ?_; rintro e wz ⟨rfl, hE⟩; replace S := S.ext (Keep.of_below hE); clear hE)
          | ((with_reducible refine tot_done ?ht ?_); (case ht => kernel_rfl))
          | ((with_reducible apply wps_alloca (E := 76) S); (case hz => exact Try.zeroValue76); clear S; intro bz wz S)
          | ((with_reducible apply wps_load S 0); (case hx => rfl); (case hi => rfl); (case hT => decide +kernel); (case hu => rfl))
          | ((with_reducible apply wps_loada (T := 30) (k := 7) S 0); (case hx => rfl); (case hi => rfl); (case hT => decide +kernel); (case hk => exact Nat.le_of_ble_eq_true rfl))
          | ((with_reducible apply wps_load S 1); (case hx => rfl); (case hi => rfl); (case hT => decide +kernel); (case hu => rfl))
          | ((with_reducible apply wps_loada (T := 30) (k := 7) S 1); (case hx => rfl); (case hi => rfl); (case hT => decide +kernel); (case hk => exact Nat.le_of_ble_eq_true rfl))
          | ((with_reducible apply wps_load S 2); (case hx => rfl); (case hi => rfl); (case hT => decide +kernel); (case hu => rfl))
          | ((with_reducible apply wps_loada (T := 30) (k := 7) S 2); (case hx => rfl); (case hi => rfl); (case hT => decide +kernel); (case hk => exact Nat.le_of_ble_eq_true rfl))
          | ((with_reducible apply wps_load S 3); (case hx => rfl); (case hi => rfl); (case hT => decide +kernel); (case hu => rfl))
          | ((with_reducible apply wps_loada (T := 30) (k := 7) S 3); (case hx => rfl); (case hi => rfl); (case hT => decide +kernel); (case hk => exact Nat.le_of_ble_eq_true rfl))
          | ((with_reducible apply wps_load S 4); (case hx => rfl); (case hi => rfl); (case hT => decide +kernel); (case hu => rfl))
          | ((with_reducible apply wps_loada (T := 30) (k := 7) S 4); (case hx => rfl); (case hi => rfl); (case hT => decide +kernel); (case hk => exact Nat.le_of_ble_eq_true rfl))
          | ((with_reducible apply wps_load S 5); (case hx => rfl); (case hi => rfl); (case hT => decide +kernel); (case hu => rfl))
          | ((with_reducible apply wps_loada (T := 30) (k := 7) S 5); (case hx => rfl); (case hi => rfl); (case hT => decide +kernel); (case hk => exact Nat.le_of_ble_eq_true rfl))
        first
          | refine ⟨_, S.pick [1, 2, 3, 4, 5, 6, 7, 8, 0] rfl, ?_⟩
          | refine ⟨_, S.pick [1, 2, 3, 4, 5, 6, 7, 0] rfl, ?_⟩
          | refine ⟨_, S.pick [1, 2, 3, 4, 5, 6, 0] rfl, ?_⟩
          | refine ⟨_, S.pick [1, 2, 3, 4, 5, 0] rfl, ?_⟩
          | refine ⟨_, S.pick [1, 2, 3, 4, 0] rfl, ?_⟩
          | refine ⟨_, S, ?_⟩
    (with_reducible apply W_done); (case hn => rfl); (case hr => decide +kernel)
    clear S
    intro wz S
    simp only [List.cons_append, List.nil_append] at S
    try simp only [pick, nth] at S
    go_wp2_with first
      | ((with_reducible refine tot_done ?ht ?_); (case ht => kernel_rfl))
      | ((with_reducible apply wps_text S); (case hm => kernel_rfl); (case hB => decide +kernel); clear S; intro wz S)
      | ((with_reducible apply wps_alloca (E := 76) S); (case hz => exact Try.zeroValue76); clear S; intro bz wz S)
      | ((with_reducible apply wps_load S 0); (case hx => rfl); (case hi => rfl); (case hT => decide +kernel); (case hu => rfl))
      | ((with_reducible apply wps_loada (T := 30) (k := 7) S 0); (case hx => rfl); (case hi => rfl); (case hT => decide +kernel); (case hk => exact Nat.le_of_ble_eq_true rfl))
      | ((with_reducible apply wps_load S 1); (case hx => rfl); (case hi => rfl); (case hT => decide +kernel); (case hu => rfl))
      | ((with_reducible apply wps_loada (T := 30) (k := 7) S 1); (case hx => rfl); (case hi => rfl); (case hT => decide +kernel); (case hk => exact Nat.le_of_ble_eq_true rfl))
      | ((with_reducible apply wps_load S 2); (case hx => rfl); (case hi => rfl); (case hT => decide +kernel); (case hu => rfl))
      | ((with_reducible apply wps_loada (T := 30) (k := 7) S 2); (case hx => rfl); (case hi => rfl); (case hT => decide +kernel); (case hk => exact Nat.le_of_ble_eq_true rfl))
      | ((with_reducible apply wps_load S 3); (case hx => rfl); (case hi => rfl); (case hT => decide +kernel); (case hu => rfl))
      | ((with_reducible apply wps_loada (T := 30) (k := 7) S 3); (case hx => rfl); (case hi => rfl); (case hT => decide +kernel); (case hk => exact Nat.le_of_ble_eq_true rfl))
    go_ret
    exact ⟨ret_int (orL_key _ _ _ _ _ _ _ _), S.below⟩
end Go.Proofs.Ytcbdacmdmaoegaa

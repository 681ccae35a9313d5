import Derived.Test.Ytcbdacmdmaoegaaref3
import Derived.Test.YtcbdacmdmaoegaaRng
/- The walk of law03's same: a heap, gone through, against the reference's. -/
namespace Go.Proofs.Ytcbdacmdmaoegaa
open Go Go.RowKit Reg Mem

theorem key_nceqs0 (k : Key) : (!ceqs k.cells k.cells) = false := by rw [key_ceqs]; simp
def SmPhi (B B2 b3 b4 b6 : Nat) (s : List Row) (vs : Value) (k : Nat) (L : List Asn) : Prop :=
  L = [Blk false b6 #[.int .i64 (k : Nat)] 3, Blk false b4 #[.bool false] 4, Blk false b3 #[.pointer (some ⟨B2, 0, none⟩)] 39, Blk true B2 #[vs] 42, Sl true Row.cells 5 vs s, shr (heapA B s)]
set_option maxRecDepth 100000 in
set_option maxHeartbeats 8000000 in
theorem same_calls (B B2 : Nat) (s : List Row) (w : World) (F1 F2 : Nat → Prop) (h1 : (heapA B s).at_ w F1) (h2 : (refH false B2 s).at_ w F2) (hn : s.length ≤ 65536) :
    Calls Try.prog 22 #[.pointer (some ⟨B, 0, none⟩), .pointer (some ⟨B2, 0, none⟩)] w fun r w' => r = .returned (.bool true) ∧ Below w.heap.size w w' := by
  have S : St (fun _ => False) w w [refH true B2 s, shr (heapA B s)] := ((St.init _ w).share (A := shr (heapA B s)) rfl rfl h1).share (A := refH true B2 s) rfl rfl h2
  obtain ⟨v, S⟩ := S.open_exs (fun _ => rfl)
  replace S := S.open_sep rfl rfl
  obtain ⟨ad, cp, rfl, _⟩ := (S.sl 1 rfl).elim fun _ h => h.form
  clear h1 h2
  have hq : ∀ (w : World) (b : Nat), (binOp .eql 53 (.func (.func 50) #[] #[.pointer (some ⟨b, 0, none⟩)]) .nilFunc).run Try.prog w = .ok (.bool false) w := fun w b => run_eql_func_nil w _ _ _ Try.underlying53
  refine calls_marks Try.func22 rfl ?_
  simp only [Try.ntmps22, List.size_toArray, List.length_cons, List.length_nil, Nat.reduceAdd, Nat.reduceSub, Array.replicate_succ, Array.replicate_zero, List.push_toArray, List.append_toArray, List.nil_append, List.cons_append]
  go_wp2_with first
    | go_skip
    | ((with_reducible refine wpList_skip ?hw ?_); (case hw => with_unfolding_all rfl); simp only [Act.put, List.setIfInBounds_toArray, List.set_cons_succ, List.set_cons_zero])
    | ((with_reducible apply wps_box1 (v := .pointer _) S); (case hx => rfl); (case h1 => rfl); clear S; intro b3 wz S)
    | ((with_reducible apply wps_alloc1 (E := 4) S); (case hz => exact Try.zeroValue4); (case h1 => rfl); clear S; intro b4 wz S)
    | (go_at_call 24; refine Calls.mono (hall_calls _ _ _ _ (S.get (i := 4) rfl).choose_spec (by omega)) ?_; rintro e wz ⟨br, ad5, c5, rfl, T⟩; replace S := S.join T rfl; clear T; simp only [List.cons_append, List.nil_append] at S)
    | ((with_reducible apply wps_alloc1 (E := 3) S); (case hz => exact Try.zeroValue3); (case h1 => rfl); clear S; intro b6 wz S)
    | ((with_reducible apply wps_store (u := .int .i64 0) S 0); (case hx => rfl); (case hy => rfl); (case hi => rfl); (case hT => decide +kernel); (case h1 => rfl); (case hn => exact Nat.le_of_ble_eq_true rfl); clear S; intro wz S; simp only [List.set_cons_zero, List.setIfInBounds_toArray] at S)
    | ((with_reducible refine tot_done ?ht ?_); (case ht => kernel_rfl))
    | ((with_reducible apply wps_text S); (case hm => kernel_rfl); (case hB => decide +kernel); clear S; intro wz S)
    | ((with_reducible apply wps_load S 0); (case hx => rfl); (case hi => rfl); (case hT => decide +kernel); (case hu => rfl))
    | ((with_reducible apply wps_loada (T := 28) (k := 4) S 0); (case hx => rfl); (case hi => rfl); (case hT => decide +kernel); (case hk => exact Nat.le_of_ble_eq_true rfl))
  replace S := (S.freeze true 2 hcells rfl).weak (i := 1) (A' := Blk true br #[.slice ad5 s.length c5] 83) rfl (fun e => by cases e) (fun F h => ⟨F, fun _ hb => hb, h⟩)
  replace S := S.pick [1, 2, 0, 3, 4, 5, 6, 7] rfl
  simp only [List.set_cons_zero, List.set_cons_succ, pick, nth] at S
  have Hn := Lib.hid hn
  clear hn
  clear hq
  refine wps_range (all2_iter br ad5 c5 s Hn.out) S rfl (calls_enter Try.func50 (by kernel_rfl) rfl) (SmPhi B B2 b3 b4 b6 s (.slice ad s.length cp)) (fun _ _ _ => False) rfl (fun x args N h => by obtain ⟨rfl, _⟩ := h; rfl) ?round ?done ?stop
  case stop => intro _ _ _ _ _ _ h; exact h.elim
  case round =>
    rintro lp D r k x args N L W hx ⟨rfl, rfl⟩ hL S
    unfold SmPhi at hL
    subst hL
    simp only [zip_two, List.setIfInBounds_toArray, List.set_cons_succ, List.set_cons_zero, List.cons_append, List.nil_append] at S ⊢
    have hkl := (List.getElem?_eq_some_iff.1 hx).1
    have hn2 := Hn.out
    obtain ⟨R, o, rfl⟩ : ∃ R o, ad = some ⟨R, o, none⟩ := (S.sl 6 rfl).elim fun F h => h.head (by omega)
    have Hx := Lib.hid hx
    clear hx
    have hlt : decide ((s.length : Int) ≤ k) = false := decide_eq_false (by omega)
    have hltn : decide (s.length ≤ k) = false := decide_eq_false (by omega)
    have hlt2 : (k : Int) < s.length := by omega
    have HK := Lib.hid (key_nceqs0 x.key)
    have hvv : (x.v != x.v) = false := by simp
    gi_wp2_with first
      | (refine wpi_at (.inr ⟨_, rfl⟩) rfl fun K hK => ?_
         go_wp2_with first
           | go_skip
           | ((with_reducible refine wpList_skip ?hw ?_); (case hw => with_unfolding_all rfl); simp only [Act.put, List.setIfInBounds_toArray, List.set_cons_succ, List.set_cons_zero])
           | ((with_reducible refine tot_done ?ht ?_); (case ht => kernel_rfl))
           | ((with_reducible apply wps_alloca (E := 28) S); (case hz => exact Try.zeroValue28); clear S; intro b7 wz S)
           | ((with_reducible apply wps_storea (T := 28) S 0 (vs := [.int .i64 x.key.at_, .int .i64 x.key.src, .int .i64 x.key.sent, .int .i64 x.key.no]) (m := 4)); (case hx => rfl); (case hy => rfl); (case hi => rfl); (case hT => decide +kernel); (case hm => rfl); (case h1 => rfl); (case hn => exact Nat.le_of_ble_eq_true rfl); clear S; intro wz S; simp only [List.set_cons_zero, List.set_cons_succ, setAll, List.setIfInBounds_toArray] at S)
         refine hK _ _ ?_
         (try simp only [Act.put]); (try simp only [List.setIfInBounds_toArray]); (try simp only [List.set_cons_succ]); (try simp only [List.set_cons_zero])
         clear hK K)
    refine ⟨_, S.lastSplit rfl, fun r' W2 S => ?_⟩
    simp only [List.dropLast, List.cons_append, List.nil_append] at S
    gi_wp2_with first
      | (refine wpi_at (.inr ⟨_, rfl⟩) rfl fun K hK => ?_
         go_wp2_with first
           | go_skip
           | ((with_reducible refine wpList_skip ?hw ?_); (case hw => with_unfolding_all rfl); simp only [Act.put, List.setIfInBounds_toArray, List.set_cons_succ, List.set_cons_zero])
           | ((with_reducible refine tot_done ?ht ?_); (case ht => kernel_rfl))
           | ((with_reducible apply wps_load S 3); (case hx => rfl); (case hi => rfl); (case hT => decide +kernel); (case hu => rfl))
           | ((with_reducible apply wps_load S 5); (case hx => rfl); (case hi => rfl); (case hT => decide +kernel); (case hu => rfl))
           | ((with_reducible apply wps_load S 6); (case hx => rfl); (case hi => rfl); (case hT => decide +kernel); (case hu => rfl))
           | ((with_reducible apply wps_loada (T := 28) (k := 4) S 0); (case hx => rfl); (case hi => rfl); (case hT => decide +kernel); (case hk => exact Nat.le_of_ble_eq_true rfl))
           | ((with_reducible apply wps_loada_el S 7 (hj := Hx.out) (q := 0) (vs := [.int .i64 x.key.at_, .int .i64 x.key.src, .int .i64 x.key.sent, .int .i64 x.key.no]) (m := 4)); (case hx => rfl); (case hT => decide +kernel); (case hi => rfl); (case hn => omega); (case hm => rfl); (case hv => rfl))
           | ((with_reducible apply wps_load_el S 7 (hj := Hx.out) (q := 4) (u := .int .i64 x.v)); (case hx => rfl); (case hi => rfl); (case hn => omega); (case hT => decide +kernel); (case hu => rfl))
           | ((with_reducible apply wpList_neq_agg (t := 28) (ks := [.int .i64, .int .i64, .int .i64, .int .i64]) (b := _)); (case hx => rfl); (case hy => rfl); (case hl => kernel_rfl); (case ha => kernel_rfl); (case hg => kernel_rfl); (case hfx => rfl); (case hfy => rfl); (case hb => exact HK.out))
           | ((with_reducible apply wps_store (u := .int .i64 ((k:Int) + 1)) S 3); (case hx => rfl); (case hy => rfl); (case hi => rfl); (case hT => decide +kernel); (case h1 => rfl); (case hn => exact Nat.le_of_ble_eq_true rfl); clear S; intro wz S; simp only [List.set_cons_succ, List.set_cons_zero, List.setIfInBounds_toArray] at S)
         refine hK _ _ ?_
         (try simp only [Act.put]); (try simp only [List.setIfInBounds_toArray]); (try simp only [List.set_cons_succ]); (try simp only [List.set_cons_zero])
         clear hK K)
      | (refine wpi_text_k S (.inr ⟨_, rfl⟩) rfl ?hm ?hB fun K hK wz S => ?_
         case hm => kernel_rfl
         case hB => decide +kernel
         go_wp2_with first
           | go_skip
           | ((with_reducible refine wpList_skip ?hw ?_); (case hw => with_unfolding_all rfl); simp only [Act.put, List.setIfInBounds_toArray, List.set_cons_succ, List.set_cons_zero])
           | ((with_reducible refine tot_done ?ht ?_); (case ht => kernel_rfl))
           | ((with_reducible apply wps_load S 3); (case hx => rfl); (case hi => rfl); (case hT => decide +kernel); (case hu => rfl))
           | ((with_reducible apply wps_load S 5); (case hx => rfl); (case hi => rfl); (case hT => decide +kernel); (case hu => rfl))
           | ((with_reducible apply wps_load S 6); (case hx => rfl); (case hi => rfl); (case hT => decide +kernel); (case hu => rfl))
           | ((with_reducible apply wps_loada (T := 28) (k := 4) S 0); (case hx => rfl); (case hi => rfl); (case hT => decide +kernel); (case hk => exact Nat.le_of_ble_eq_true rfl))
           | ((with_reducible apply wps_loada_el S 7 (hj := Hx.out) (q := 0) (vs := [.int .i64 x.key.at_, .int .i64 x.key.src, .int .i64 x.key.sent, .int .i64 x.key.no]) (m := 4)); (case hx => rfl); (case hT => decide +kernel); (case hi => rfl); (case hn => omega); (case hm => rfl); (case hv => rfl))
           | ((with_reducible apply wps_load_el S 7 (hj := Hx.out) (q := 4) (u := .int .i64 x.v)); (case hx => rfl); (case hi => rfl); (case hn => omega); (case hT => decide +kernel); (case hu => rfl))
           | ((with_reducible apply wpList_neq_agg (t := 28) (ks := [.int .i64, .int .i64, .int .i64, .int .i64]) (b := _)); (case hx => rfl); (case hy => rfl); (case hl => kernel_rfl); (case ha => kernel_rfl); (case hg => kernel_rfl); (case hfx => rfl); (case hfy => rfl); (case hb => exact HK.out))
           | ((with_reducible apply wps_store (u := .int .i64 ((k:Int) + 1)) S 3); (case hx => rfl); (case hy => rfl); (case hi => rfl); (case hT => decide +kernel); (case h1 => rfl); (case hn => exact Nat.le_of_ble_eq_true rfl); clear S; intro wz S; simp only [List.set_cons_succ, List.set_cons_zero, List.setIfInBounds_toArray] at S)
         refine hK _ _ ?_
         clear hK K)
    rw [show (k : Int) + 1 = ((k + 1 : Nat) : Int) from rfl] at S
    exact ⟨[Blk false b6 #[.int .i64 ((k + 1 : Nat) : Int)] 3, Blk false b4 #[.bool false] 4, Blk false b3 #[.pointer (some ⟨B2, 0, none⟩)] 39, Blk true B2 #[.slice (some ⟨R, o, none⟩) s.length cp] 42, Sl true Row.cells 5 (.slice (some ⟨R, o, none⟩) s.length cp) s, shr (heapA B s)], rfl, S.pick [1, 2, 3, 4, 5, 6, 7, 8, 9] rfl⟩
  case done =>
    rintro D W L hL S
    unfold SmPhi at hL
    subst hL
    simp only [List.cons_append, List.nil_append] at S
    have kq : (((s.length : Nat) : Int) == (s.length : Nat)) = true := by simp
    go_wp2_with first
      | go_skip
      | ((with_reducible refine wpList_skip ?hw ?_); (case hw => with_unfolding_all rfl); simp only [Act.put, List.setIfInBounds_toArray, List.set_cons_succ, List.set_cons_zero])
    replace S := S.pick [0, 1, 2, 3, 5, 6, 7, 8, 4] rfl
    simp only [pick, nth] at S
    (refine wp_region_wt (soft := [0, 1, 2, 3, 4, 5, 6, 7, 8, 9, 10, 11, 12]) (L := [_, _, _, _, _, _, _, _]) (T := [_]) S ?hm ?hB ?_); (case hm => kernel_rfl); (case hB => decide +kernel); clear S
    iterate 13
      (with_reducible apply softs_cons)
      (case hw =>
        (with_reducible apply soft_of); (case hi => rfl)
        intro T wz S
        simp only [List.cons_append, List.nil_append] at S
        go_wp2_with first
          | go_skip
          | ((with_reducible apply wps_load S 3); (case hx => rfl); (case hi => rfl); (case hT => decide +kernel); (case hu => rfl))
          | ((with_reducible apply wps_load S 4); (case hx => rfl); (case hi => rfl); (case hT => decide +kernel); (case hu => rfl))
          | ((with_reducible apply wps_load S 5); (case hx => rfl); (case hi => rfl); (case hT => decide +kernel); (case hu => rfl))
          | (go_at_call 29; refine Calls.mono (hlen_calls _ _ _ _ (S.get (i := 7) rfl).choose_spec) ?_; rintro e wz ⟨rfl, hE⟩; replace S := S.ext (Keep.of_below hE); clear hE)
          | ((with_reducible apply wps_store (u := .bool true) S 8); (case hx => rfl); (case hy => rfl); (case hi => rfl); (case hT => decide +kernel); (case h1 => rfl); (case hn => exact Nat.le_of_ble_eq_true rfl); clear S; intro wz S; simp only [List.set_cons_succ, List.set_cons_zero, List.setIfInBounds_toArray] at S)
          | ((with_reducible refine tot_done ?ht ?_); (case ht => kernel_rfl))
          | ((with_reducible apply wps_alloc1 (E := 3) S); (case hz => exact Try.zeroValue3); (case h1 => rfl); clear S; intro bz wz S)
          | ((with_reducible apply wps_alloc1 (E := 4) S); (case hz => exact Try.zeroValue4); (case h1 => rfl); clear S; intro bz wz S)
          | ((with_reducible apply wps_alloca (E := 28) S); (case hz => exact Try.zeroValue28); clear S; intro bz wz S)
          | ((with_reducible apply wps_load S 0); (case hx => rfl); (case hi => rfl); (case hT => decide +kernel); (case hu => rfl))
          | ((with_reducible apply wps_loada (T := 28) (k := 4) S 0); (case hx => rfl); (case hi => rfl); (case hT => decide +kernel); (case hk => exact Nat.le_of_ble_eq_true rfl))
        exact ⟨rfl, S⟩)
      (case hs => exact ⟨_, rfl, by kernel_rfl⟩)
    refine softs_nil ?_
    (with_reducible apply W_hard1 (i := 13)); (case hn => rfl); (case hr => decide +kernel)
    intro wz S
    (with_reducible apply hard_of); (case hi => rfl)
    simp only [List.cons_append, List.nil_append] at S
    go_wp2_with first
      | go_skip
      | ((with_reducible apply wps_load S 3); (case hx => rfl); (case hi => rfl); (case hT => decide +kernel); (case hu => rfl))
      | ((with_reducible apply wps_load S 4); (case hx => rfl); (case hi => rfl); (case hT => decide +kernel); (case hu => rfl))
      | ((with_reducible apply wps_load S 5); (case hx => rfl); (case hi => rfl); (case hT => decide +kernel); (case hu => rfl))
      | (go_at_call 29; refine Calls.mono (hlen_calls _ _ _ _ (S.get (i := 7) rfl).choose_spec) ?_; rintro e wz ⟨rfl, hE⟩; replace S := S.ext (Keep.of_below hE); clear hE)
      | ((with_reducible apply wps_store (u := .bool true) S 8); (case hx => rfl); (case hy => rfl); (case hi => rfl); (case hT => decide +kernel); (case h1 => rfl); (case hn => exact Nat.le_of_ble_eq_true rfl); clear S; intro wz S; simp only [List.set_cons_succ, List.set_cons_zero, List.setIfInBounds_toArray] at S)
      | ((with_reducible refine tot_done ?ht ?_); (case ht => kernel_rfl))
      | ((with_reducible apply wps_alloc1 (E := 3) S); (case hz => exact Try.zeroValue3); (case h1 => rfl); clear S; intro bz wz S)
      | ((with_reducible apply wps_alloc1 (E := 4) S); (case hz => exact Try.zeroValue4); (case h1 => rfl); clear S; intro bz wz S)
      | ((with_reducible apply wps_alloca (E := 28) S); (case hz => exact Try.zeroValue28); clear S; intro bz wz S)
      | ((with_reducible apply wps_load S 0); (case hx => rfl); (case hi => rfl); (case hT => decide +kernel); (case hu => rfl))
      | ((with_reducible apply wps_loada (T := 28) (k := 4) S 0); (case hx => rfl); (case hi => rfl); (case hT => decide +kernel); (case hk => exact Nat.le_of_ble_eq_true rfl))
    refine ⟨_, S, ?_⟩
    clear S
    (with_reducible apply W_done); (case hn => rfl); (case hr => decide +kernel)
    intro wz S
    repeat (first | simp only at S | simp only [pick] at S | simp only [nth] at S | simp only [List.set_cons_succ] at S | simp only [List.set_cons_zero] at S | simp only [List.setIfInBounds_toArray] at S | simp only [setAll] at S | simp only [List.cons_append] at S | simp only [List.nil_append] at S | simp only [List.append_nil] at S)
    go_wp2_with first
      | go_skip
      | ((with_reducible refine wpList_skip ?hw ?_); (case hw => with_unfolding_all rfl); simp only [Act.put, List.setIfInBounds_toArray, List.set_cons_succ, List.set_cons_zero])
    refine leaves_ret1 S rfl fun w' S => ⟨_, results1 rfl (S.res1 7 rfl rfl (by kernel_rfl)), ⟨rfl, S.below⟩⟩
end Go.Proofs.Ytcbdacmdmaoegaa

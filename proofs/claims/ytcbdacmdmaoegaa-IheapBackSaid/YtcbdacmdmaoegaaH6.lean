import Derived.Test.YtcbdacmdmaoegaaH4
import Derived.Test.YtcbdacmdmaoegaaH5
/- The walk of the law IheapPlays. -/
namespace Go.Proofs.Ytcbdacmdmaoegaa
open Go Go.RowKit Reg Mem

/-- What there is behind some calls. -/
def afterE (l : List Op3) : List Row := l.foldl stepE []
theorem after_sorted_from : ∀ (l : List Op3) (s : List Row), HSorted s → HSorted (l.foldl stepE s)
  | [], _, h => h
  | o :: l, _, h => after_sorted_from l _ (step_sorted h o)
theorem after_sorted (l : List Op3) : HSorted (afterE l) := after_sorted_from l [] List.Pairwise.nil
theorem after_len_from : ∀ (l : List Op3) (s : List Row), (l.foldl stepE s).length ≤ s.length + l.length
  | [], _ => Nat.le_refl _
  | o :: l, s => by
    have h1 := after_len_from l (stepE s o)
    have h2 := step_length s o
    simp only [List.foldl_cons, List.length_cons]; omega
theorem after_len (l : List Op3) : (afterE l).length ≤ l.length := by have := after_len_from l []; simpa [afterE] using this
theorem after_step {l : List Op3} {j : Nat} {o : Op3} (h : l[j]? = some o) : afterE (l.take (j + 1)) = stepE (afterE (l.take j)) o := by
  unfold afterE
  rw [take_snoc h, List.foldl_append]; rfl
theorem ref_new {G : Nat → Prop} {w0 w : World} {L : List Asn} {b : Nat} (S : St G w0 w (Blk false b #[.slice none 0 0] 42 :: L)) : St G w0 w (refH false b [] :: L) := by
  have S1 := (S.nil 57 Row.cells 5).swap2
  have S2 := S1.freeze false 1 rcells rfl
  exact (S2.close_sep rfl rfl).close_exs (A := fun v => sep false (Blk false b #[v] 42) (Sl false Row.cells 5 v [])) _ rfl
theorem op3_len : ∀ x : Op3, x.cells.length = 6 := fun _ => rfl
def PlRel (B B2 : Nat) (v : Value) (l : List Op3) (w : World) (i : Value) (wr : World) : Prop :=
  ∃ j : Nat, j ≤ l.length ∧ i = .int .i64 j ∧ St (fun _ => False) w wr [heapA B (afterE (l.take j)), refH false B2 (afterE (l.take j)), Sl true Op3.cells 6 v l]
set_option maxRecDepth 100000 in
set_option maxHeartbeats 4000000 in
theorem iheapPlays_calls (v : Value) (l : List Op3) (w : World) (F : Nat → Prop) (h : (Sl true Op3.cells 6 v l).at_ w F) : Calls Try.prog 8 #[v] w fun r w' => r = .returned (.bool true) ∧ Below w.heap.size w w' := by
  have S : St (fun _ => False) w w [Sl true Op3.cells 6 v l] := (St.init _ w).share rfl rfl h
  obtain ⟨ad, cp, rfl, _⟩ := (S.sl 0 rfl).elim fun _ h => h.form
  clear h
  by_cases hl : l.length ≤ 60
  · have hd : decide (l.length ≤ 60) = true := decide_eq_true hl
    have Hd := Lib.hid hd
    clear hd
    go_enter Try.func8, Try.ntmps8
    go_wp2_with first
      | go_skip
      | ((with_reducible refine wpList_skip ?hw ?_); (case hw => with_unfolding_all rfl); simp only [Act.put, List.setIfInBounds_toArray, List.set_cons_succ, List.set_cons_zero])
      | (go_at_call 15; refine Calls.mono (hnew_calls _) ?_; rintro e wz ⟨B, rfl, T⟩; replace S := S.join T rfl; clear T; simp only [List.cons_append, List.nil_append] at S)
      | (go_at_call 16; refine Calls.mono (few_calls _ _ _ _ _ rfl) ?_; rintro e wz ⟨rfl, hE⟩; rw [Hd.out]; replace S := S.ext (Keep.of_below hE); clear hE)
      | ((with_reducible apply wps_boxa (E := 42) S); (case hx => rfl); clear S; intro B2 wz S)
      | ((with_reducible refine tot_done ?ht ?_); (case ht => kernel_rfl))
      | ((with_reducible apply wps_boxa S); (case hx => rfl); clear S; intro bz wz S)
      | ((with_reducible apply wps_box1 (v := .int _ _) S); (case hx => rfl); (case h1 => rfl); clear S; intro bz wz S)
      | ((with_reducible apply wps_box1 (v := .bool _) S); (case hx => rfl); (case h1 => rfl); clear S; intro bz wz S)
      | ((with_reducible apply wps_box1 (v := .slice _ _ _) S); (case hx => rfl); (case h1 => rfl); clear S; intro bz wz S)
      | ((with_reducible apply wps_box1 (v := .pointer _) S); (case hx => rfl); (case h1 => rfl); clear S; intro bz wz S)
      | ((with_reducible apply wps_box1 (v := .map _) S); (case hx => rfl); (case h1 => rfl); clear S; intro bz wz S)
      | ((with_reducible apply wps_box1 (v := .string _) S); (case hx => rfl); (case h1 => rfl); clear S; intro bz wz S)
      | ((with_reducible apply wps_box1 (v := .func _ _ _) S); (case hx => rfl); (case h1 => rfl); clear S; intro bz wz S)
      | ((with_reducible apply wps_loada (T := 45) (k := 6) S 0); (case hx => rfl); (case hi => rfl); (case hT => decide +kernel); (case hk => exact Nat.le_of_ble_eq_true rfl))
    replace S := ref_new S
    replace S := S.pick [1, 0, 2] rfl
    simp only [pick, nth] at S
    go_loopw [5] (fun i wr => PlRel B B2 (.slice ad l.length cp) l w i wr) (fun i _ => l.length - (intOf i).toNat)
    case atStart => exact ⟨0, Nat.zero_le _, rfl, S⟩
    case round =>
      clear S
      obtain ⟨j, hj, rfl, S⟩ := hrel
      have Hs := Lib.hid (after_sorted (l.take j))
      have Hn := Lib.hid (after_len (l.take j))
      by_cases hlt : j < l.length
      · obtain ⟨x, hx⟩ : ∃ x, l[j]? = some x := ⟨_, List.getElem?_eq_getElem hlt⟩
        obtain ⟨R, o, rfl⟩ : ∃ R o, ad = some ⟨R, o, none⟩ := (S.sl 2 rfl).elim fun F h => h.head (by omega)
        have hlt2 : (j : Int) < l.length := by omega
        have hst := after_step hx
        have hns : (afterE (l.take j)).length ≤ 65535 := by have := Hn.out; rw [List.length_take] at this; omega
        have hns2 : (afterE (l.take (j + 1))).length ≤ 65536 := by have := after_len (l.take (j + 1)); rw [List.length_take] at this; omega
        rw [hst] at hns2
        have Hst := Lib.hid hst
        have Hx := Lib.hid hx
        clear hx
        clear hst
        generalize hsj : afterE (l.take j) = s at *
        go_wp2_with first
          | go_skip
          | ((with_reducible refine wpList_skip ?hw ?_); (case hw => with_unfolding_all rfl); simp only [Act.put, List.setIfInBounds_toArray, List.set_cons_succ, List.set_cons_zero])
          | ((with_reducible apply wps_loada_el S 2 (hj := Hx.out) (q := 0) (vs := [.int .i64 x.ask, .int .i64 x.k.at_, .int .i64 x.k.src, .int .i64 x.k.sent, .int .i64 x.k.no, .int .i64 x.v]) (m := 6)); (case hx => rfl); (case hT => decide +kernel); (case hi => rfl); (case hn => omega); (case hm => rfl); (case hv => rfl))
          | (go_at_call 18; obtain ⟨Fz, hF, hBk⟩ := S.lend [0, 1] [] [2] rfl rfl rfl; refine Calls.mono (does_calls _ _ _ x _ _ hF Hs.out hns) ?_; rintro e wz ⟨rfl, T⟩; replace S := hBk _ _ T rfl; clear hBk hF T; simp only [pick, nth, List.cons_append, List.nil_append] at S)
          | (go_at_call 22; refine Calls.mono (same_calls _ _ _ _ _ _ (S.get (i := 0) rfl).choose_spec (S.get (i := 1) rfl).choose_spec hns2) ?_; rintro e wz ⟨rfl, hE⟩; replace S := S.ext (Keep.of_below hE); clear hE)
          | ((with_reducible refine tot_done ?ht ?_); (case ht => kernel_rfl))
          | ((with_reducible apply wps_boxa S); (case hx => rfl); clear S; intro bz wz S)
          | ((with_reducible apply wps_box1 (v := .int _ _) S); (case hx => rfl); (case h1 => rfl); clear S; intro bz wz S)
          | ((with_reducible apply wps_box1 (v := .bool _) S); (case hx => rfl); (case h1 => rfl); clear S; intro bz wz S)
          | ((with_reducible apply wps_box1 (v := .slice _ _ _) S); (case hx => rfl); (case h1 => rfl); clear S; intro bz wz S)
          | ((with_reducible apply wps_box1 (v := .pointer _) S); (case hx => rfl); (case h1 => rfl); clear S; intro bz wz S)
          | ((with_reducible apply wps_box1 (v := .map _) S); (case hx => rfl); (case h1 => rfl); clear S; intro bz wz S)
          | ((with_reducible apply wps_box1 (v := .string _) S); (case hx => rfl); (case h1 => rfl); clear S; intro bz wz S)
          | ((with_reducible apply wps_box1 (v := .func _ _ _) S); (case hx => rfl); (case h1 => rfl); clear S; intro bz wz S)
          | ((with_reducible apply wps_loada (T := 45) (k := 6) S 0); (case hx => rfl); (case hi => rfl); (case hT => decide +kernel); (case hk => exact Nat.le_of_ble_eq_true rfl))
        go_roundw
        case rel => exact ⟨j + 1, by omega, by go_num, by rw [Hst.out]; exact S⟩
        case measure => first | (simp [intOf]; done) | (simp [intOf]; omega)
      · obtain rfl : j = l.length := by omega
        go_wp2_with first
          | go_skip
          | ((with_reducible refine wpList_skip ?hw ?_); (case hw => with_unfolding_all rfl); simp only [Act.put, List.setIfInBounds_toArray, List.set_cons_succ, List.set_cons_zero])
          | (go_at_call 17; refine Calls.mono (awake3_calls _) ?_; rintro e wz ⟨rfl, hE⟩; replace S := S.ext (Keep.of_below hE); clear hE)
          | ((with_reducible refine tot_done ?ht ?_); (case ht => kernel_rfl))
          | ((with_reducible apply wps_boxa S); (case hx => rfl); clear S; intro bz wz S)
          | ((with_reducible apply wps_box1 (v := .int _ _) S); (case hx => rfl); (case h1 => rfl); clear S; intro bz wz S)
          | ((with_reducible apply wps_box1 (v := .bool _) S); (case hx => rfl); (case h1 => rfl); clear S; intro bz wz S)
          | ((with_reducible apply wps_box1 (v := .slice _ _ _) S); (case hx => rfl); (case h1 => rfl); clear S; intro bz wz S)
          | ((with_reducible apply wps_box1 (v := .pointer _) S); (case hx => rfl); (case h1 => rfl); clear S; intro bz wz S)
          | ((with_reducible apply wps_box1 (v := .map _) S); (case hx => rfl); (case h1 => rfl); clear S; intro bz wz S)
          | ((with_reducible apply wps_box1 (v := .string _) S); (case hx => rfl); (case h1 => rfl); clear S; intro bz wz S)
          | ((with_reducible apply wps_box1 (v := .func _ _ _) S); (case hx => rfl); (case h1 => rfl); clear S; intro bz wz S)
          | ((with_reducible apply wps_loada (T := 45) (k := 6) S 0); (case hx => rfl); (case hi => rfl); (case hT => decide +kernel); (case hk => exact Nat.le_of_ble_eq_true rfl))
        go_ret
        exact ⟨rfl, S.below⟩
  · have hd : decide (l.length ≤ 60) = false := decide_eq_false hl
    have Hd := Lib.hid hd
    clear hd
    go_enter Try.func8, Try.ntmps8
    go_wp2_with first
      | go_skip
      | ((with_reducible refine wpList_skip ?hw ?_); (case hw => with_unfolding_all rfl); simp only [Act.put, List.setIfInBounds_toArray, List.set_cons_succ, List.set_cons_zero])
      | (go_at_call 15; refine Calls.mono (hnew_calls _) ?_; rintro e wz ⟨B, rfl, T⟩; replace S := S.join T rfl; clear T; simp only [List.cons_append, List.nil_append] at S)
      | (go_at_call 16; refine Calls.mono (few_calls _ _ _ _ _ rfl) ?_; rintro e wz ⟨rfl, hE⟩; rw [Hd.out]; replace S := S.ext (Keep.of_below hE); clear hE)
      | (go_at_call 17; refine Calls.mono (awake3_calls _) ?_; rintro e wz ⟨rfl, hE⟩; replace S := S.ext (Keep.of_below hE); clear hE)
      | ((with_reducible refine tot_done ?ht ?_); (case ht => kernel_rfl))
      | ((with_reducible apply wps_boxa S); (case hx => rfl); clear S; intro bz wz S)
      | ((with_reducible apply wps_box1 (v := .int _ _) S); (case hx => rfl); (case h1 => rfl); clear S; intro bz wz S)
      | ((with_reducible apply wps_box1 (v := .bool _) S); (case hx => rfl); (case h1 => rfl); clear S; intro bz wz S)
      | ((with_reducible apply wps_box1 (v := .slice _ _ _) S); (case hx => rfl); (case h1 => rfl); clear S; intro bz wz S)
      | ((with_reducible apply wps_box1 (v := .pointer _) S); (case hx => rfl); (case h1 => rfl); clear S; intro bz wz S)
      | ((with_reducible apply wps_box1 (v := .map _) S); (case hx => rfl); (case h1 => rfl); clear S; intro bz wz S)
      | ((with_reducible apply wps_box1 (v := .string _) S); (case hx => rfl); (case h1 => rfl); clear S; intro bz wz S)
      | ((with_reducible apply wps_box1 (v := .func _ _ _) S); (case hx => rfl); (case h1 => rfl); clear S; intro bz wz S)
      | ((with_reducible apply wps_loada (T := 45) (k := 6) S 0); (case hx => rfl); (case hi => rfl); (case hT => decide +kernel); (case hk => exact Nat.le_of_ble_eq_true rfl))
    go_ret
    exact ⟨rfl, S.below⟩
end Go.Proofs.Ytcbdacmdmaoegaa

import Derived.Test.YtjmecncebdbhdaaDoorU19
import Derived.Deep.CutRange
import Derived.Test.YtjmecncebdbhdaaDoorU24
import Derived.Test.YtjmecncebdbhdaaDoorU16
/- The walks of the reference's Sort (chapter 10), and of Some (chapter 16). -/
namespace Go.Proofs.YtjmecncebdbhdaaDoor
open Go Go.RowKit Reg Mem

theorem insTot_at : ∀ {out : List Event} {x : Event} {n : Nat}, (∀ y ∈ out.take n, ¬ evLt x y) → (n = out.length ∨ ∃ y, out[n]? = some y ∧ evLt x y) → insTot x out = out.take n ++ x :: out.drop n
  | [], x, n, _, _ => by simp [insTot]
  | a :: out, x, 0, _, h2 => by
    rcases h2 with h2 | ⟨y, hy, hl⟩
    · simp at h2
    · simp at hy; subst hy; simp [insTot, hl]
  | a :: out, x, n + 1, h1, h2 => by
    have ha : ¬ evLt x a := h1 a (by simp)
    have := insTot_at (out := out) (x := x) (n := n) (fun y hy => h1 y (by simp [hy])) (by
      rcases h2 with h2 | ⟨y, hy, hl⟩
      · simp at h2; exact .inl h2
      · exact .inr ⟨y, by simpa using hy, hl⟩)
    simp [insTot, ha, this]
theorem sortT_step {l : List Event} {i : Nat} {x : Event} (h : l[i]? = some x) : sortT (l.take (i + 1)) = insTot x (sortT (l.take i)) := by
  unfold sortT
  rw [take_snoc h, List.foldl_append]; rfl
theorem sortT_len2 (l : List Event) : (sortT l).length = l.length := (sortT_perm l).length_eq
def TSortPost (l : List Event) (w : World) (e : Ending) (w' : World) : Prop :=
  ∃ ad c, e = .returned (.slice ad l.length c) ∧ St (fun _ => False) w w' [Own 52 Event.cells 7 (.slice ad l.length c) (sortT l)]
def TSoRel1 (ad : Option Addr) (cp : Nat) (l : List Event) (w : World) (out i : Value) (wr : World) : Prop :=
  ∃ (j : Nat), j ≤ l.length ∧ i = .int .i64 j ∧ St (fun _ => False) w wr [Own 52 Event.cells 7 out (sortT (l.take j)), Sl true Event.cells 7 (.slice ad l.length cp) l]
def TSoRel2 (va : Value) (ad : Option Addr) (cp : Nat) (l out : List Event) (x : Event) (w : World) (n : Value) (wr : World) : Prop :=
  ∃ (k : Nat), k ≤ out.length ∧ n = .int .i64 k ∧ (∀ y ∈ out.take k, ¬ evLt x y) ∧ St (fun _ => False) w wr [Sl true Event.cells 7 va out, Sl true Event.cells 7 (.slice ad l.length cp) l]
set_option maxRecDepth 100000 in
set_option maxHeartbeats 8000000 in
theorem tsort_calls (v : Value) (l : List Event) (w : World) (F : Nat → Prop) (h : (Sl true Event.cells 7 v l).at_ w F) (hn : l.length ≤ 65536) : Calls Tryd.prog 35 #[v] w (TSortPost l w) := by
  have S : St (fun _ => False) w w [Sl true Event.cells 7 v l] := (St.init _ w).share rfl rfl h
  obtain ⟨ad, cp, rfl, _⟩ := (S.sl 0 rfl).elim fun _ h => h.form
  clear h
  replace S := S.nil 52 Event.cells 7
  go_enter Tryd.func35, Tryd.ntmps35
  go_wp2_with first | go_skip | ((with_reducible refine wpList_skip ?hw ?_); (case hw => with_unfolding_all rfl); simp only [Act.put, List.setIfInBounds_toArray, List.set_cons_succ, List.set_cons_zero]) | ((with_reducible refine tot_done ?ht ?_); (case ht => kernel_rfl)) | ((with_reducible apply wps_text S); (case hm => kernel_rfl); (case hB => decide +kernel); clear S; intro wz S) | ((with_reducible apply wps_loada (T := 52) (k := 7) S 0); (case hx | hi => rfl); (case hk => exact Nat.le_of_ble_eq_true rfl); (case hT => decide +kernel))
  go_loopw [3, 4] (fun out i wr => TSoRel1 ad cp l w out i wr) (fun _ i _ => l.length - (intOf i).toNat)
  case atStart => exact ⟨0, Nat.zero_le _, rfl, S⟩
  case round =>
    clear S
    obtain ⟨i, hi, rfl, S⟩ := hrel
    by_cases hlt : i < l.length
    · obtain ⟨R, o, rfl⟩ : ∃ R o, ad = some ⟨R, o, none⟩ := (S.sl 1 rfl).elim fun F h => h.head (by omega)
      obtain ⟨x, hx⟩ : ∃ x, l[i]? = some x := ⟨_, List.getElem?_eq_getElem hlt⟩
      have hlt2 : (i : Int) < l.length := by omega
      have HS : Hid (sortT (l.take (i + 1)) = insTot x (sortT (l.take i))) := sortT_step hx
      have hol : (sortT (l.take i)).length = i := by rw [sortT_len2]; simp; omega
      generalize sortT (l.take i) = out at *
      replace S := S.freeze true 0 ecells rfl
      simp only [List.set_cons_zero] at S
      obtain ⟨ad2, c2, rfl, _⟩ := (S.sl 0 rfl).elim fun _ h => h.form
      have hol2 : out.length ≤ 65536 := by omega
      have hol3 : out.length ≤ i := by omega
      have Hx := Lib.hid hx
      clear hx
      clear hol
      go_wp2_with first | go_skip | ((with_reducible refine wpList_skip ?hw ?_); (case hw => with_unfolding_all rfl); simp only [Act.put, List.setIfInBounds_toArray, List.set_cons_succ, List.set_cons_zero]) | ((with_reducible refine tot_done ?ht ?_); (case ht => kernel_rfl)) | ((with_reducible apply wps_text S); (case hm => kernel_rfl); (case hB => decide +kernel); clear S; intro wz S) | ((with_reducible apply wps_loada (T := 52) (k := 7) S 0); (case hx | hi => rfl); (case hk => exact Nat.le_of_ble_eq_true rfl); (case hT => decide +kernel))
      go_loopw [5] (fun n wr => TSoRel2 (.slice ad2 out.length c2) (some ⟨R, o, none⟩) cp l out x w n wr) (fun n _ => out.length - (intOf n).toNat)
      case atStart => exact ⟨0, Nat.zero_le _, rfl, fun y h => by simp at h, S⟩
      case round =>
        clear S
        obtain ⟨k, hk, rfl, hall, S⟩ := hrel
        have goal_ : ∀ (hstop : k = out.length ∨ ∃ y, out[k]? = some y ∧ evLt x y), Hid (insTot x out = out.take k ++ x :: out.drop k) := fun hstop => insTot_at hall hstop
        by_cases hkl : k < out.length
        · obtain ⟨y, hy⟩ : ∃ y, out[k]? = some y := ⟨_, List.getElem?_eq_getElem hkl⟩
          obtain ⟨R2, o2, rfl⟩ : ∃ R o, ad2 = some ⟨R, o, none⟩ := (S.sl 0 rfl).elim fun F h => h.head (by omega)
          have hkl2 : (k : Int) < out.length := by omega
          by_cases hc : evLt x y
          case neg =>
            have HC : Hid (∀ w, Calls Tryd.prog 65 #[.agg #[.int .i64 x.key.at_, .int .i64 x.key.src, .int .i64 x.key.sent, .int .i64 x.key.no, .int .i64 x.dst, .int .i64 x.kind, .int .i64 x.data], .agg #[.int .i64 y.key.at_, .int .i64 y.key.src, .int .i64 y.key.sent, .int .i64 y.key.no, .int .i64 y.dst, .int .i64 y.kind, .int .i64 y.data]] w fun e w' => e = .returned (.bool false) ∧ Below w.heap.size w w') := fun w => (ahead_calls x y w).mono fun e w' h => ⟨by rw [h.1, decide_eq_false hc], h.2⟩
            have HA : Hid (∀ z ∈ out.take (k + 1), ¬ evLt x z) := fun z hz => by
              rw [List.take_add_one, hy] at hz
              rcases List.mem_append.1 hz with h | h
              · exact hall z h
              · simp at h; subst h; exact hc
            clear hc goal_ hall
            have Hy := Lib.hid hy
            clear hy
            go_wp2_with first | go_skip | ((with_reducible refine wpList_skip ?hw ?_); (case hw => with_unfolding_all rfl); simp only [Act.put, List.setIfInBounds_toArray, List.set_cons_succ, List.set_cons_zero]) | ((with_reducible apply wps_loada_el S 1 (hj := Hx.out) (q := 0) (vs := [.int .i64 x.key.at_, .int .i64 x.key.src, .int .i64 x.key.sent, .int .i64 x.key.no, .int .i64 x.dst, .int .i64 x.kind, .int .i64 x.data]) (m := 7)); (case hx | hi => rfl); (case hn => omega); (case hm | hv => rfl); (case hT => decide +kernel)) | ((with_reducible apply wps_loada_el S 0 (hj := Hy.out) (q := 0) (vs := [.int .i64 y.key.at_, .int .i64 y.key.src, .int .i64 y.key.sent, .int .i64 y.key.no, .int .i64 y.dst, .int .i64 y.kind, .int .i64 y.data]) (m := 7)); (case hx | hi => rfl); (case hn => omega); (case hm | hv => rfl); (case hT => decide +kernel)) | (go_at_call 65; refine Calls.mono (HC.out _) ?_; rintro e wz ⟨rfl, hE⟩; replace S := S.ext (Keep.of_below hE); clear hE) | ((with_reducible refine tot_done ?ht ?_); (case ht => kernel_rfl)) | ((with_reducible apply wps_text S); (case hm => kernel_rfl); (case hB => decide +kernel); clear S; intro wz S) | ((with_reducible apply wps_loada (T := 52) (k := 7) S 0); (case hx | hi => rfl); (case hk => exact Nat.le_of_ble_eq_true rfl); (case hT => decide +kernel))
            go_roundw
            case rel => exact ⟨k + 1, by omega, by go_num, HA.out, S⟩
            case measure => first | (simp [intOf]; done) | (simp [intOf]; omega)
          case pos =>
            have HC : Hid (∀ w, Calls Tryd.prog 65 #[.agg #[.int .i64 x.key.at_, .int .i64 x.key.src, .int .i64 x.key.sent, .int .i64 x.key.no, .int .i64 x.dst, .int .i64 x.kind, .int .i64 x.data], .agg #[.int .i64 y.key.at_, .int .i64 y.key.src, .int .i64 y.key.sent, .int .i64 y.key.no, .int .i64 y.dst, .int .i64 y.kind, .int .i64 y.data]] w fun e w' => e = .returned (.bool true) ∧ Below w.heap.size w w') := fun w => (ahead_calls x y w).mono fun e w' h => ⟨by rw [h.1, decide_eq_true hc], h.2⟩
            have HG := goal_ (.inr ⟨y, hy, hc⟩)
            clear hc goal_ hall
            have Hy := Lib.hid hy
            clear hy
            replace S := S.nil 52 Event.cells 7
            go_wp2_with first | go_skip | ((with_reducible refine wpList_skip ?hw ?_); (case hw => with_unfolding_all rfl); simp only [Act.put, List.setIfInBounds_toArray, List.set_cons_succ, List.set_cons_zero]) | ((with_reducible apply wps_loada_el S 2 (hj := Hx.out) (q := 0) (vs := [.int .i64 x.key.at_, .int .i64 x.key.src, .int .i64 x.key.sent, .int .i64 x.key.no, .int .i64 x.dst, .int .i64 x.kind, .int .i64 x.data]) (m := 7)); (case hx | hi => rfl); (case hn => omega); (case hm | hv => rfl); (case hT => decide +kernel)) | ((with_reducible apply wps_loada_el S 1 (hj := Hy.out) (q := 0) (vs := [.int .i64 y.key.at_, .int .i64 y.key.src, .int .i64 y.key.sent, .int .i64 y.key.no, .int .i64 y.dst, .int .i64 y.kind, .int .i64 y.data]) (m := 7)); (case hx | hi => rfl); (case hn => omega); (case hm | hv => rfl); (case hT => decide +kernel)) | (go_at_call 65; refine Calls.mono (HC.out _) ?_; rintro e wz ⟨rfl, hE⟩; replace S := S.ext (Keep.of_below hE); clear hE) | ((with_reducible apply wps_slice (E := 52) S 1 (l := 0) (u := k)); (case hx | hi => rfl); (case hT => exact Tryd.underlying29); (case hE => intro w; kernel_rfl); (case hlo | hhi => first | exact .inr rfl | exact .inl ⟨rfl, rfl⟩); (case h1 | h2 => first | omega | (simp; omega)); clear S; intro az nz cz hnz S) | ((with_reducible apply wps_appends elem_Ev ecells eone (by decide) S 1 (j := 0)); (case hx | hy | hi | hj => rfl); (case hl => first | omega | (simp; omega)); clear S; intro az nz cz wz hnz S; simp only [List.set_cons_succ, List.set_cons_zero] at S) | ((with_reducible apply wps_loada_el S 3 (hj := Hx.out) (q := 0) (vs := [.int .i64 x.key.at_, .int .i64 x.key.src, .int .i64 x.key.sent, .int .i64 x.key.no, .int .i64 x.dst, .int .i64 x.kind, .int .i64 x.data]) (m := 7)); (case hx | hi => rfl); (case hn => omega); (case hm | hv => rfl); (case hT => decide +kernel)) | ((with_reducible apply wps_build1a (T := 29) (E := 52) S); (case hx => rfl); (case hr => intro w; kernel_rfl); clear S; intro bz wz S) | ((with_reducible apply wps_append1 elem_Ev ecells eone (by decide) S 2 (j := 0) (e := x)); (case hx | hy | hi | hj | he => rfl); (case hl => first | omega | (simp; omega)); clear S; intro az nz cz wz hnz S; simp only [List.set_cons_succ, List.set_cons_zero] at S) | ((with_reducible apply wps_slice (E := 52) S 3 (l := k) (u := out.length)); (case hx | hi => rfl); (case hT => exact Tryd.underlying29); (case hE => intro w; kernel_rfl); (case hlo | hhi => first | exact .inr rfl | exact .inl ⟨rfl, rfl⟩); (case h1 | h2 => first | omega | (simp; omega)); clear S; intro az nz cz hnz S) | ((with_reducible apply wps_appends elem_Ev ecells eone (by decide) S 3 (j := 0)); (case hx | hy | hi | hj => rfl); (case hl => first | omega | (simp; omega)); clear S; intro az nz cz wz hnz S; simp only [List.set_cons_succ, List.set_cons_zero] at S) | ((with_reducible refine tot_done ?ht ?_); (case ht => kernel_rfl)) | ((with_reducible apply wps_text S); (case hm => kernel_rfl); (case hB => decide +kernel); clear S; intro wz S) | ((with_reducible apply wps_loada (T := 52) (k := 7) S 0); (case hx | hi => rfl); (case hk => exact Nat.le_of_ble_eq_true rfl); (case hT => decide +kernel))
            have HE : Hid ([] ++ (out.take k).drop 0 ++ [x] ++ (out.take out.length).drop k = sortT (l.take (i + 1))) := by
              rw [HS.out, HG.out, List.take_length]; simp [Hid]
            rw [HE.out] at S
            go_roundw
            case rel => exact ⟨i + 1, by omega, by go_num, S.pick [3, 5] rfl⟩
            case measure => first | (simp [intOf]; done) | (simp [intOf]; omega)
        · obtain rfl : k = out.length := by omega
          have HG := goal_ (.inl rfl)
          clear goal_ hall
          replace S := S.nil 52 Event.cells 7
          generalize hkk : out.length = k at *
          go_wp2_with first | go_skip | ((with_reducible refine wpList_skip ?hw ?_); (case hw => with_unfolding_all rfl); simp only [Act.put, List.setIfInBounds_toArray, List.set_cons_succ, List.set_cons_zero]) | ((with_reducible apply wps_slice (E := 52) S 1 (l := 0) (u := k)); (case hx | hi => rfl); (case hT => exact Tryd.underlying29); (case hE => intro w; kernel_rfl); (case hlo | hhi => first | exact .inr rfl | exact .inl ⟨rfl, rfl⟩); (case h1 | h2 => first | omega | (simp; omega)); clear S; intro az nz cz hnz S) | ((with_reducible apply wps_appends elem_Ev ecells eone (by decide) S 1 (j := 0)); (case hx | hy | hi | hj => rfl); (case hl => first | omega | (simp; omega)); clear S; intro az nz cz wz hnz S; simp only [List.set_cons_succ, List.set_cons_zero] at S) | ((with_reducible apply wps_loada_el S 3 (hj := Hx.out) (q := 0) (vs := [.int .i64 x.key.at_, .int .i64 x.key.src, .int .i64 x.key.sent, .int .i64 x.key.no, .int .i64 x.dst, .int .i64 x.kind, .int .i64 x.data]) (m := 7)); (case hx | hi => rfl); (case hn => omega); (case hm | hv => rfl); (case hT => decide +kernel)) | ((with_reducible apply wps_build1a (T := 29) (E := 52) S); (case hx => rfl); (case hr => intro w; kernel_rfl); clear S; intro bz wz S) | ((with_reducible apply wps_append1 elem_Ev ecells eone (by decide) S 2 (j := 0) (e := x)); (case hx | hy | hi | hj | he => rfl); (case hl => first | omega | (simp; omega)); clear S; intro az nz cz wz hnz S; simp only [List.set_cons_succ, List.set_cons_zero] at S) | ((with_reducible apply wps_slice (E := 52) S 3 (l := k) (u := k)); (case hx | hi => rfl); (case hT => exact Tryd.underlying29); (case hE => intro w; kernel_rfl); (case hlo | hhi => first | exact .inr rfl | exact .inl ⟨rfl, rfl⟩); (case h1 | h2 => first | omega | (simp; omega)); clear S; intro az nz cz hnz S) | ((with_reducible apply wps_appends elem_Ev ecells eone (by decide) S 3 (j := 0)); (case hx | hy | hi | hj => rfl); (case hl => first | omega | (simp; omega)); clear S; intro az nz cz wz hnz S; simp only [List.set_cons_succ, List.set_cons_zero] at S) | ((with_reducible refine tot_done ?ht ?_); (case ht => kernel_rfl)) | ((with_reducible apply wps_text S); (case hm => kernel_rfl); (case hB => decide +kernel); clear S; intro wz S) | ((with_reducible apply wps_loada (T := 52) (k := 7) S 0); (case hx | hi => rfl); (case hk => exact Nat.le_of_ble_eq_true rfl); (case hT => decide +kernel))
          have HE : Hid ([] ++ (out.take k).drop 0 ++ [x] ++ (out.take k).drop k = sortT (l.take (i + 1))) := by
            rw [HS.out, HG.out, List.take_of_length_le (by omega : out.length ≤ k)]; simp [Hid]
          rw [HE.out] at S
          go_roundw
          case rel => exact ⟨i + 1, by omega, by go_num, S.pick [3, 5] rfl⟩
          case measure => first | (simp [intOf]; done) | (simp [intOf]; omega)
    · obtain rfl : i = l.length := by omega
      rw [List.take_length] at S
      obtain ⟨F0, hF0⟩ := S.get (i := 0) rfl
      obtain ⟨ad0, c0, rfl⟩ := hF0.1.form
      clear hF0
      rw [sortT_len2] at S
      rw [sortT_len2]
      go_wp2_with first | go_skip | ((with_reducible refine wpList_skip ?hw ?_); (case hw => with_unfolding_all rfl); simp only [Act.put, List.setIfInBounds_toArray, List.set_cons_succ, List.set_cons_zero]) | ((with_reducible refine tot_done ?ht ?_); (case ht => kernel_rfl)) | ((with_reducible apply wps_text S); (case hm => kernel_rfl); (case hB => decide +kernel); clear S; intro wz S) | ((with_reducible apply wps_loada (T := 52) (k := 7) S 0); (case hx | hi => rfl); (case hk => exact Nat.le_of_ble_eq_true rfl); (case hT => decide +kernel))
      go_ret
      exact ⟨_, _, rfl, S.pick [0] rfl⟩
def SmPost (q : List Event) (w : World) (e : Ending) (w' : World) : Prop :=
  ∃ ad c, e = .returned (.slice ad q.length c) ∧ St (fun _ => False) w w' [Own 52 Event.cells 7 (.slice ad q.length c) q]
def SmRelF (va : Value) (s : List Event) (w : World) (out i : Value) (wr : World) : Prop :=
  (i = .int .i64 0 ∧ St (fun _ => False) w wr [Own 52 Event.cells 7 out [], Sl true Event.cells 7 va s]) ∨
  ∃ (k : Nat) (o : List Event), k < s.length ∧ i = .int .i64 ((k : Int) + 1) ∧ Hid (once (s.take (k + 1)) = o) ∧ o.length ≤ k + 1 ∧ St (fun _ => False) w wr [Own 52 Event.cells 7 out o, Sl true Event.cells 7 va s]
set_option maxRecDepth 100000 in
set_option maxHeartbeats 8000000 in
theorem some_calls (v : Value) (l : List Event) (w : World) (F : Nat → Prop) (h : (Sl true Event.cells 7 v l).at_ w F) (hn : l.length ≤ 65536) : Calls Tryd.prog 9 #[v] w (SmPost (once (sortT l)) w) := by
  have S : St (fun _ => False) w w [Sl true Event.cells 7 v l] := (St.init _ w).share rfl rfl h
  obtain ⟨ad, cp, rfl, _⟩ := (S.sl 0 rfl).elim fun _ h => h.form
  clear h
  go_enter Tryd.func9, Tryd.ntmps9
  go_wp2_with first | go_skip | ((with_reducible refine wpList_skip ?hw ?_); (case hw => with_unfolding_all rfl); simp only [Act.put, List.setIfInBounds_toArray, List.set_cons_succ, List.set_cons_zero]) | (go_at_call 35; refine Calls.mono (tsort_calls _ _ _ _ (S.get (i := 0) rfl).choose_spec hn) ?_; rintro e wz ⟨ad1, c1, rfl, T⟩; replace S := S.join T rfl; clear T; simp only [List.cons_append, List.nil_append] at S) | ((with_reducible refine tot_done ?ht ?_); (case ht => kernel_rfl)) | ((with_reducible apply wps_text S); (case hm => kernel_rfl); (case hB => decide +kernel); clear S; intro wz S) | ((with_reducible apply wps_loada (T := 50) (k := 4) S 0); (case hx | hi => rfl); (case hk => exact Nat.le_of_ble_eq_true rfl); (case hT => decide +kernel)) | ((with_reducible apply wps_loada (T := 52) (k := 7) S 0); (case hx | hi => rfl); (case hk => exact Nat.le_of_ble_eq_true rfl); (case hT => decide +kernel))
  have hl : l.length = (sortT l).length := (sortT_len2 l).symm
  rw [hl] at hn ⊢
  rw [hl] at S
  clear hl
  generalize sortT l = s at *
  replace S := ((S.freeze true 0 ecells rfl).pick [0] rfl).nil 52 Event.cells 7
  simp only [List.set_cons_zero, pick, nth] at S
  go_loopw [4, 5] (fun out i wr => SmRelF (.slice ad1 s.length c1) s w out i wr) (fun _ i _ => s.length + 1 - (intOf i).toNat)
  case atStart => exact .inl ⟨rfl, S⟩
  case round =>
    clear S
    rcases hrel with ⟨rfl, S⟩ | ⟨k, o, hk, rfl, HO, ho, S⟩
    · by_cases h0 : 0 < s.length
      · obtain ⟨x, hx⟩ : ∃ x, s[0]? = some x := ⟨_, List.getElem?_eq_getElem h0⟩
        obtain ⟨R, o, rfl⟩ : ∃ R o, ad1 = some ⟨R, o, none⟩ := (S.sl 1 rfl).elim fun F h => h.head (by omega)
        obtain ⟨ao, co, rfl, _⟩ := (S.ownsl ecells 0 rfl).elim fun _ h => h.form
        have h02 : (0 : Int) < s.length := by omega
        have hl0 : ([] : List Event).length < 4294967296 := by decide
        have HO : Hid (once (s.take (0 + 1)) = [x]) := Lib.hid (by rw [take_snoc hx]; rfl)
        have Hx := Lib.hid hx
        clear hx
        go_wp2_with first | go_skip | ((with_reducible refine wpList_skip ?hw ?_); (case hw => with_unfolding_all rfl); simp only [Act.put, List.setIfInBounds_toArray, List.set_cons_succ, List.set_cons_zero]) | ((with_reducible apply wps_loada_el S 1 (hj := Hx.out) (q := 0) (vs := [.int .i64 x.key.at_, .int .i64 x.key.src, .int .i64 x.key.sent, .int .i64 x.key.no, .int .i64 x.dst, .int .i64 x.kind, .int .i64 x.data]) (m := 7)); (case hx | hi => rfl); (case hn => omega); (case hm | hv => rfl); (case hT => decide +kernel)) | ((with_reducible apply wps_loada_el S 1 (hj := Hx.out) (q := 0) (vs := [.int .i64 x.key.at_, .int .i64 x.key.src, .int .i64 x.key.sent, .int .i64 x.key.no]) (m := 4)); (case hx | hi => rfl); (case hn => omega); (case hm | hv => rfl); (case hT => decide +kernel)) | ((with_reducible apply wps_build1a (T := 29) (E := 52) S); (case hx => rfl); (case hr => intro w; kernel_rfl); clear S; intro bz wz S) | ((with_reducible apply wps_append1 elem_Ev ecells eone (by decide) S 1 (j := 0) (e := x)); (case hx | hy | hi | hj | he => rfl); (case hl => first | omega | (simp; omega)); clear S; intro az nz cz wz hnz S; simp only [List.set_cons_succ, List.set_cons_zero] at S) | ((with_reducible refine tot_done ?ht ?_); (case ht => kernel_rfl)) | ((with_reducible apply wps_text S); (case hm => kernel_rfl); (case hB => decide +kernel); clear S; intro wz S) | ((with_reducible apply wps_loada (T := 50) (k := 4) S 0); (case hx | hi => rfl); (case hk => exact Nat.le_of_ble_eq_true rfl); (case hT => decide +kernel)) | ((with_reducible apply wps_loada (T := 52) (k := 7) S 0); (case hx | hi => rfl); (case hk => exact Nat.le_of_ble_eq_true rfl); (case hT => decide +kernel))
        go_roundw
        case rel => exact .inr ⟨0, [x], h0, by go_num, HO, by simp, S.pick [1, 2] rfl⟩
        case measure => first | (simp [intOf]; done) | (simp [intOf]; omega)
      · obtain rfl : s = [] := List.eq_nil_of_length_eq_zero (by omega)
        obtain ⟨ao, co, rfl, _⟩ := (S.ownsl ecells 0 rfl).elim fun _ h => h.form
        go_wp2_with first | go_skip | ((with_reducible refine wpList_skip ?hw ?_); (case hw => with_unfolding_all rfl); simp only [Act.put, List.setIfInBounds_toArray, List.set_cons_succ, List.set_cons_zero]) | ((with_reducible refine tot_done ?ht ?_); (case ht => kernel_rfl)) | ((with_reducible apply wps_text S); (case hm => kernel_rfl); (case hB => decide +kernel); clear S; intro wz S) | ((with_reducible apply wps_loada (T := 50) (k := 4) S 0); (case hx | hi => rfl); (case hk => exact Nat.le_of_ble_eq_true rfl); (case hT => decide +kernel)) | ((with_reducible apply wps_loada (T := 52) (k := 7) S 0); (case hx | hi => rfl); (case hk => exact Nat.le_of_ble_eq_true rfl); (case hT => decide +kernel))
        go_ret
        exact ⟨_, _, rfl, S.pick [0] rfl⟩
    · obtain ⟨ao, co, rfl, _⟩ := (S.ownsl ecells 0 rfl).elim fun _ h => h.form
      by_cases hlt : k + 1 < s.length
      · obtain ⟨x, hx⟩ : ∃ x, s[k + 1]? = some x := ⟨_, List.getElem?_eq_getElem hlt⟩
        obtain ⟨y, hy⟩ : ∃ y, s[k]? = some y := ⟨_, List.getElem?_eq_getElem (by omega)⟩
        obtain ⟨R, oo, rfl⟩ : ∃ R o, ad1 = some ⟨R, o, none⟩ := (S.sl 1 rfl).elim fun F h => h.head (by omega)
        have hlt2 : (k : Int) + 1 < s.length := by omega
        have hlt3 : (k : Int) < s.length := by omega
        have ho3 : o.length < 4294967296 := by omega
        have f0 : ((k : Int) + 1 == 0) = false := by simp; omega
        have HS := Lib.hid (once_step hx hy)
        by_cases hkk : y.key = x.key
        · have HN : Hid ((!ceqs x.key.cells y.key.cells) = false) := Lib.hid (by rw [key_ceqs]; simp [hkk])
          have HO2 : Hid (once (s.take (k + 1 + 1)) = o) := Lib.hid (by have := HS.out; rw [if_pos hkk, List.append_nil, HO.out] at this; exact this)
          clear hkk HS HO
          have Hx := Lib.hid hx
          have Hy := Lib.hid hy
          clear hx hy
          go_wp2_with first | go_skip | ((with_reducible refine wpList_skip ?hw ?_); (case hw => with_unfolding_all rfl); simp only [Act.put, List.setIfInBounds_toArray, List.set_cons_succ, List.set_cons_zero]) | ((with_reducible apply wps_loada_el S 1 (hj := Hx.out) (q := 0) (vs := [.int .i64 x.key.at_, .int .i64 x.key.src, .int .i64 x.key.sent, .int .i64 x.key.no, .int .i64 x.dst, .int .i64 x.kind, .int .i64 x.data]) (m := 7)); (case hx | hi => rfl); (case hn => omega); (case hm | hv => rfl); (case hT => decide +kernel)) | ((with_reducible apply wps_loada_el S 1 (hj := Hx.out) (q := 0) (vs := [.int .i64 x.key.at_, .int .i64 x.key.src, .int .i64 x.key.sent, .int .i64 x.key.no]) (m := 4)); (case hx | hi => rfl); (case hn => omega); (case hm | hv => rfl); (case hT => decide +kernel)) | ((with_reducible apply wps_loada_el S 1 (hj := Hy.out) (q := 0) (vs := [.int .i64 y.key.at_, .int .i64 y.key.src, .int .i64 y.key.sent, .int .i64 y.key.no, .int .i64 y.dst, .int .i64 y.kind, .int .i64 y.data]) (m := 7)); (case hx | hi => rfl); (case hn => omega); (case hm | hv => rfl); (case hT => decide +kernel)) | ((with_reducible apply wps_loada_el S 1 (hj := Hy.out) (q := 0) (vs := [.int .i64 y.key.at_, .int .i64 y.key.src, .int .i64 y.key.sent, .int .i64 y.key.no]) (m := 4)); (case hx | hi => rfl); (case hn => omega); (case hm | hv => rfl); (case hT => decide +kernel)) | ((with_reducible apply wpList_neq_agg (t := 50) (ks := [.int .i64, .int .i64, .int .i64, .int .i64]) (b := _)); (case hx | hy => rfl); (case hl | ha | hg => kernel_rfl); (case hfx | hfy => rfl); (case hb => exact HN.out)) | ((with_reducible refine tot_done ?ht ?_); (case ht => kernel_rfl)) | ((with_reducible apply wps_text S); (case hm => kernel_rfl); (case hB => decide +kernel); clear S; intro wz S) | ((with_reducible apply wps_loada (T := 50) (k := 4) S 0); (case hx | hi => rfl); (case hk => exact Nat.le_of_ble_eq_true rfl); (case hT => decide +kernel)) | ((with_reducible apply wps_loada (T := 52) (k := 7) S 0); (case hx | hi => rfl); (case hk => exact Nat.le_of_ble_eq_true rfl); (case hT => decide +kernel))
          go_roundw
          case rel => exact .inr ⟨k + 1, o, by omega, by go_num, HO2, by omega, S⟩
          case measure => simp [intOf]; omega
        · have HN : Hid ((!ceqs x.key.cells y.key.cells) = true) := Lib.hid (by rw [key_ceqs]; simp [Ne.symm hkk])
          have HO2 : Hid (once (s.take (k + 1 + 1)) = o ++ [x]) := Lib.hid (by have := HS.out; rw [if_neg hkk, HO.out] at this; exact this)
          clear hkk HS HO
          have Hx := Lib.hid hx
          have Hy := Lib.hid hy
          clear hx hy
          go_wp2_with first | go_skip | ((with_reducible refine wpList_skip ?hw ?_); (case hw => with_unfolding_all rfl); simp only [Act.put, List.setIfInBounds_toArray, List.set_cons_succ, List.set_cons_zero]) | ((with_reducible apply wps_loada_el S 1 (hj := Hx.out) (q := 0) (vs := [.int .i64 x.key.at_, .int .i64 x.key.src, .int .i64 x.key.sent, .int .i64 x.key.no, .int .i64 x.dst, .int .i64 x.kind, .int .i64 x.data]) (m := 7)); (case hx | hi => rfl); (case hn => omega); (case hm | hv => rfl); (case hT => decide +kernel)) | ((with_reducible apply wps_loada_el S 1 (hj := Hx.out) (q := 0) (vs := [.int .i64 x.key.at_, .int .i64 x.key.src, .int .i64 x.key.sent, .int .i64 x.key.no]) (m := 4)); (case hx | hi => rfl); (case hn => omega); (case hm | hv => rfl); (case hT => decide +kernel)) | ((with_reducible apply wps_loada_el S 1 (hj := Hy.out) (q := 0) (vs := [.int .i64 y.key.at_, .int .i64 y.key.src, .int .i64 y.key.sent, .int .i64 y.key.no, .int .i64 y.dst, .int .i64 y.kind, .int .i64 y.data]) (m := 7)); (case hx | hi => rfl); (case hn => omega); (case hm | hv => rfl); (case hT => decide +kernel)) | ((with_reducible apply wps_loada_el S 1 (hj := Hy.out) (q := 0) (vs := [.int .i64 y.key.at_, .int .i64 y.key.src, .int .i64 y.key.sent, .int .i64 y.key.no]) (m := 4)); (case hx | hi => rfl); (case hn => omega); (case hm | hv => rfl); (case hT => decide +kernel)) | ((with_reducible apply wpList_neq_agg (t := 50) (ks := [.int .i64, .int .i64, .int .i64, .int .i64]) (b := _)); (case hx | hy => rfl); (case hl | ha | hg => kernel_rfl); (case hfx | hfy => rfl); (case hb => exact HN.out)) | ((with_reducible apply wps_build1a (T := 29) (E := 52) S); (case hx => rfl); (case hr => intro w; kernel_rfl); clear S; intro bz wz S) | ((with_reducible apply wps_append1 elem_Ev ecells eone (by decide) S 1 (j := 0) (e := x)); (case hx | hy | hi | hj | he => rfl); (case hl => first | omega | (simp; omega)); clear S; intro az nz cz wz hnz S; simp only [List.set_cons_succ, List.set_cons_zero] at S) | ((with_reducible refine tot_done ?ht ?_); (case ht => kernel_rfl)) | ((with_reducible apply wps_text S); (case hm => kernel_rfl); (case hB => decide +kernel); clear S; intro wz S) | ((with_reducible apply wps_loada (T := 50) (k := 4) S 0); (case hx | hi => rfl); (case hk => exact Nat.le_of_ble_eq_true rfl); (case hT => decide +kernel)) | ((with_reducible apply wps_loada (T := 52) (k := 7) S 0); (case hx | hi => rfl); (case hk => exact Nat.le_of_ble_eq_true rfl); (case hT => decide +kernel))
          go_roundw
          case rel => exact .inr ⟨k + 1, o ++ [x], by omega, by go_num, HO2, by simp; omega, S.pick [1, 2] rfl⟩
          case measure => simp [intOf]; omega
      · have hlt2 : ¬ ((k : Int) + 1 < s.length) := by omega
        have hke : k + 1 = s.length := by omega
        have ho2 : once s = o := by have := HO.out; rw [hke, List.take_length] at this; exact this
        subst ho2
        clear hke HO
        go_wp2_with first | go_skip | ((with_reducible refine wpList_skip ?hw ?_); (case hw => with_unfolding_all rfl); simp only [Act.put, List.setIfInBounds_toArray, List.set_cons_succ, List.set_cons_zero]) | ((with_reducible refine tot_done ?ht ?_); (case ht => kernel_rfl)) | ((with_reducible apply wps_text S); (case hm => kernel_rfl); (case hB => decide +kernel); clear S; intro wz S) | ((with_reducible apply wps_loada (T := 50) (k := 4) S 0); (case hx | hi => rfl); (case hk => exact Nat.le_of_ble_eq_true rfl); (case hT => decide +kernel)) | ((with_reducible apply wps_loada (T := 52) (k := 7) S 0); (case hx | hi => rfl); (case hk => exact Nat.le_of_ble_eq_true rfl); (case hT => decide +kernel))
        go_ret
        exact ⟨_, _, rfl, S.pick [0] rfl⟩
end Go.Proofs.YtjmecncebdbhdaaDoor
